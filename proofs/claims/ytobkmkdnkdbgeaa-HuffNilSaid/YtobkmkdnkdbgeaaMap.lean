/- Maps as resources: made, asked, written; keys of a kind that is compared by its value. -/
import Derived.Test.YtobkmkdnkdbgeaaSl
import Derived.MapKept
import Derived.Laws.StructEq
namespace Go.Hal
open Go.RowKit
set_option linter.unusedVariables false
set_option linter.unusedSimpArgs false

/-- How keys of a type are told apart: by their values. -/
structure KeyLaw (P : Program) (kt : TypeId) {K : Type} [DecidableEq K] (enc : K → Value) : Prop where
  check : ∀ e k w, (Instr.checkKey e 10000 kt (enc k)).run P w = .ok () w
  eq : ∀ k k' w, (Op.equal kt (enc k) (enc k')).run P w = .ok (decide (k = k')) w
  now : ∃ d, P.underlying kt = some d ∧ ∀ k k', Instr.sameNow d (enc k) (enc k') = none ∨ Instr.sameNow d (enc k) (enc k') = some (decide (k = k'))
  same : ∀ k, Instr.sameBits 10000 (enc k) (enc k) = true

/-- Where a key stands. -/
def place {K : Type} [DecidableEq K] (k : K) : List (K × Value) → Option Nat
  | [] => none
  | e :: r => if k = e.1 then some 0 else (place k r).map (· + 1)
/-- What a key has. -/
def has {K : Type} [DecidableEq K] (k : K) (D : List (K × Value)) : Option Value := (D.find? (fun e => decide (k = e.1))).map (·.2)
/-- A key gets a value. -/
def put {K : Type} [DecidableEq K] (k : K) (v : Value) (D : List (K × Value)) : List (K × Value) :=
  match place k D with
  | none => D ++ [(k, v)]
  | some i => D.set i (k, v)

section
variable {K : Type} [DecidableEq K]
theorem place_has (k : K) (D : List (K × Value)) : has k D = (place k D).bind (fun i => (D[i]?).map (·.2)) := by
  unfold has
  induction D with
  | nil => rfl
  | cons e r ih =>
    simp only [place, List.find?_cons]
    by_cases h : k = e.1
    · simp [h]
    · simp only [h, decide_false, if_false]
      rw [ih]
      cases place k r <;> simp
theorem place_lt {k : K} {D : List (K × Value)} {i : Nat} (h : place k D = some i) : ∃ v, D[i]? = some (k, v) := by
  induction D generalizing i with
  | nil => simp [place] at h
  | cons e r ih =>
    simp only [place] at h
    by_cases hk : k = e.1
    · simp only [hk, if_true, Option.some.injEq] at h
      subst h
      exact ⟨e.2, by simp [hk]⟩
    · simp only [hk, if_false, Option.map_eq_some_iff] at h
      obtain ⟨j, hj, rfl⟩ := h
      obtain ⟨v, hv⟩ := ih hj
      exact ⟨v, by simpa using hv⟩
theorem place_none {k : K} {D : List (K × Value)} : place k D = none ↔ ∀ e ∈ D, e.1 ≠ k := by
  induction D with
  | nil => simp [place]
  | cons e r ih =>
    simp only [place, List.mem_cons, forall_eq_or_imp]
    by_cases hk : k = e.1
    · simp [hk]
    · simp only [hk, if_false, Option.map_eq_none_iff, ih]
      exact ⟨fun h => ⟨fun e => hk e.symm, h⟩, fun h => h.2⟩
theorem has_none {k : K} {D : List (K × Value)} : has k D = none ↔ place k D = none := by
  rw [place_has]
  cases h : place k D with
  | none => simp
  | some i => obtain ⟨v, hv⟩ := place_lt h; simp [hv]
end

section
variable {P : Program} {K : Type} [DecidableEq K] {kt : TypeId} {enc : K → Value}

theorem run_findAsking (hk : KeyLaw P kt enc) (k : K) : ∀ (l : List MapEntry) (D : List (K × Value)) (i : Nat) (w : World), l.map (fun e => (e.key, e.val)) = D.map (fun e => (enc e.1, e.2)) →
    (Instr.findAsking kt (enc k) l i).run P w = .ok ((place k D).map (fun j => (i + j, ((D[j]?).map (·.2)).getD undef))) w := by
  intro l
  induction l with
  | nil =>
    intro D i w h
    cases D with
    | nil => rfl
    | cons _ _ => simp at h
  | cons e r ih =>
    intro D i w h
    cases D with
    | nil => simp at h
    | cons d D =>
      simp only [List.map_cons, List.cons.injEq, Prod.mk.injEq] at h
      obtain ⟨⟨h1, h2⟩, h3⟩ := h
      simp only [Instr.findAsking, Sem.run_bind, h1, hk.eq, Result.andThen_ok, place]
      by_cases hd : k = d.1
      · simp [hd, h2]
      · simp only [hd, decide_false, if_false, Bool.false_eq_true]
        rw [ih D (i + 1) w h3]
        cases place k D with
        | none => rfl
        | some j => simp [show i + 1 + j = i + (j + 1) by omega]

theorem findNow_enc {d : TypeDesc} (hn : ∀ k k', Instr.sameNow d (enc k) (enc k') = none ∨ Instr.sameNow d (enc k) (enc k') = some (decide (k = k'))) (k : K) : ∀ (l : List MapEntry) (D : List (K × Value)) (i : Nat), l.map (fun e => (e.key, e.val)) = D.map (fun e => (enc e.1, e.2)) →
    Instr.findNow d (enc k) l i = none ∨ Instr.findNow d (enc k) l i = some ((place k D).map (fun j => (i + j, ((D[j]?).map (·.2)).getD undef))) := by
  intro l
  induction l with
  | nil =>
    intro D i h
    cases D with
    | nil => right; rfl
    | cons _ _ => simp at h
  | cons e r ih =>
    intro D i h
    cases D with
    | nil => simp at h
    | cons x D =>
      simp only [List.map_cons, List.cons.injEq, Prod.mk.injEq] at h
      obtain ⟨⟨h1, h2⟩, h3⟩ := h
      simp only [Instr.findNow, h1, place]
      rcases hn k x.1 with h | h
      · left; rw [h]
      · rw [h]
        by_cases hd : k = x.1
        · right; simp [hd, h2]
        · simp only [hd, decide_false, if_false]
          rcases ih D (i + 1) h3 with h | h
          · left; exact h
          · right; rw [h]
            cases place k D with
            | none => rfl
            | some j => simp [show i + 1 + j = i + (j + 1) by omega]

theorem run_findKey_enc (hk : KeyLaw P kt enc) (k : K) (l : List MapEntry) (D : List (K × Value)) (w : World) (h : l.map (fun e => (e.key, e.val)) = D.map (fun e => (enc e.1, e.2))) :
    (Instr.findKey kt (enc k) l).run P w = .ok ((place k D).map (fun j => (j, ((D[j]?).map (·.2)).getD undef))) w := by
  obtain ⟨d, hd, hn⟩ := hk.now
  unfold Instr.findKey
  simp only [Sem.run_bind, run_underlying hd, Result.andThen_ok]
  rcases findNow_enc hn k l D 0 h with h' | h'
  · rw [h']
    simp only [run_findAsking hk k l D 0 w h]
    congr 2
    funext j; simp
  · rw [h']
    simp
end

/-- A map's block: its entries in their order; each with a stamp of its own. -/
def MapAt (F : Nat → Prop) (w : World) {K : Type} (enc : K → Value) (b : Nat) (D : List (K × Value)) : Prop :=
  F b ∧ ∃ es clock, w.heap[b]? = some (.map es clock) ∧ es.toList.map (fun e => (e.key, e.val)) = D.map (fun e => (enc e.1, e.2)) ∧ (∀ (i : Nat) (e : MapEntry), es[i]? = some e → e.born < clock) ∧
    ∀ (i j : Nat) (e f : MapEntry), es[i]? = some e → es[j]? = some f → e.born = f.born → i = j

def mp {K : Type} (enc : K → Value) (b : Nat) (D : List (K × Value)) : Res where
  P F w := MapAt F w enc b D
  carry F F' w w' := by
    rintro ⟨hf, es, clock, h1, h2, h3, h4⟩ hc
    obtain ⟨c1, c2⟩ := hc.block b (Array.getElem?_eq_some_iff.1 h1).1 hf
    exact ⟨c1, es, clock, c2.trans h1, h2, h3, h4⟩

theorem mp_owns {K : Type} (enc : K → Value) (b : Nat) (D : List (K × Value)) : (mp enc b D).owns b := fun _ _ h => h.1

theorem Sat.mp_new {w : World} {Rs : List Res} (hS : Sat w Rs) {K : Type} (enc : K → Value) : Sat (w.alloc (.map #[] 0)) (mp enc w.heap.size [] :: Rs) :=
  (hS.alloc _).conv (fun F hF => ⟨hF.1, #[], 0, hF.2, rfl, fun i e h => by simp at h, fun i j e f h => by simp at h⟩)

/-- A map's block is written anew. -/
def putMap (w : World) (b : Nat) (es : Array MapEntry) (c : Nat) : World :=
  { w with heap := w.heap.modify b fun | .map _ _ => .map es c | o => o }

section
variable (w : World) (b : Nat) (es : Array MapEntry) (c : Nat)
@[simp] theorem putMap_cell (a : Addr) : (putMap w b es c).cell? a = w.cell? a := by
  simp only [putMap, World.cell?, Array.getElem?_modify]
  by_cases h : b = a.block
  · simp only [h, if_true]
    cases hh : w.heap[a.block]? with
    | none => simp
    | some x => cases x <;> simp
  · simp [h]
@[simp] theorem putMap_frozen (a : Addr) : (putMap w b es c).frozen? a = w.frozen? a := by
  simp only [putMap, World.frozen?, Array.getElem?_modify]
  by_cases h : b = a.block
  · simp only [h, if_true]
    cases hh : w.heap[a.block]? with
    | none => simp
    | some x => cases x <;> simp
  · simp [h]
@[simp] theorem putMap_size : (putMap w b es c).heap.size = w.heap.size := by simp [putMap]
theorem putMap_heap {es0 : Array MapEntry} {c0 : Nat} (h : w.heap[b]? = some (.map es0 c0)) : (putMap w b es c).heap[b]? = some (.map es c) := by simp [putMap, Array.getElem?_modify, h]
theorem putMap_set {es0 : Array MapEntry} {c0 : Nat} (h : w.heap[b]? = some (.map es0 c0)) : { w with heap := w.heap.setIfInBounds b (.map es c) } = putMap w b es c := by
  unfold putMap
  congr 1
  refine Array.ext_getElem? fun i => ?_
  simp only [Array.getElem?_setIfInBounds, Array.getElem?_modify]
  by_cases hi : b = i
  · subst hi
    obtain ⟨hlt, hv⟩ := Array.getElem?_eq_some_iff.1 h
    simp [hlt, hv]
  · simp [hi]
theorem putMap_twice (es' : Array MapEntry) (c' : Nat) : putMap (putMap w b es c) b es' c' = putMap w b es' c' := by
  unfold putMap
  congr 1
  refine Array.ext (by simp) fun i h1 h2 => ?_
  simp only [Array.getElem_modify]
  by_cases hi : b = i
  · subst hi
    simp only [if_true]
    cases w.heap[b]'(by simpa using h2) <;> rfl
  · simp [hi]
theorem Mods.putMap {S : Nat → Prop} {a w : World} (h : Mods S a w) {b : Nat} (hb : S b ∨ a.heap.size ≤ b) (es : Array MapEntry) (c : Nat) : Mods S a (putMap w b es c) :=
  ⟨h.os, h.tape, h.output, by simpa using h.size, fun k hk hn => by
    have hkb : b ≠ k := by
      rintro rfl
      rcases hb with hb | hb
      · exact hn hb
      · omega
    simp only [Hal.putMap, Array.getElem?_modify, hkb, if_false]
    exact h.block k hk hn⟩
end

section
variable {P : Program} {K : Type} [DecidableEq K] {kt : TypeId} {enc : K → Value}

theorem run_lookup_enc (hk : KeyLaw P kt enc) {F : Nat → Prop} {w : World} {b : Nat} {D : List (K × Value)} (h : MapAt F w enc b D) (mt et : TypeId) (hm : P.underlying mt = some (.map kt et)) (z : Value) (hz : ∀ w : World, (zeroValue et).run P w = .ok z w) (k : K) (ok : Bool) :
    (Instr.lookup mt (.map (some b)) (enc k) ok).run P w = .ok (if ok then .tuple #[(has k D).getD z, .bool (has k D).isSome] else (has k D).getD z) w := by
  obtain ⟨-, es, clock, h1, h2, -, -⟩ := h
  unfold Instr.lookup
  simp only [Sem.run_bind, run_underlying hm, Result.andThen_ok, MapKept.run_getObj_map h1, Sem.run_pure, hk.check, run_findKey_enc hk k es.toList D w h2, place_has]
  cases hp : place k D with
  | none => cases ok <;> simp [hz]
  | some i =>
    obtain ⟨v, hv⟩ := place_lt hp
    cases ok <;> simp [hv]

theorem stays (hk : KeyLaw P kt enc) (k : K) (w : World) : (Instr.keyThatStays (enc k) (enc k)).run P w = .ok (enc k) w := by
  simp [Instr.keyThatStays, hk.same]

/-- The entries behind a store. -/
theorem run_mapUpdate_enc (hk : KeyLaw P kt enc) {F : Nat → Prop} {w : World} {b : Nat} {D : List (K × Value)} (h : MapAt F w enc b D) (mt et : TypeId) (hm : P.underlying mt = some (.map kt et)) (k : K) (v : Value) :
    ∃ es c, (Instr.mapUpdate mt (.map (some b)) (enc k) v).run P w = .ok () (putMap w b es c) ∧ MapAt F (putMap w b es c) enc b (put k v D) := by
  obtain ⟨hf, es, clock, h1, h2, h3, h4⟩ := h
  have hlen : es.size = D.length := by simpa using congrArg List.length h2
  unfold Instr.mapUpdate
  simp only [Sem.run_bind, run_underlying hm, Result.andThen_ok, MapKept.run_getObj_map h1, hk.check, run_findKey_enc hk k es.toList D w h2]
  unfold put
  cases hp : place k D with
  | none =>
    refine ⟨es.push { key := enc k, val := v, born := clock }, clock + 1, ?_, hf, _, _, putMap_heap w b _ _ h1, ?_, ?_, ?_⟩
    · simp only [Option.map_none]
      rw [MapKept.run_setObj_map _ h1, putMap_set w b _ _ h1]
    · simp [h2]
    · intro i e he
      rw [Array.getElem?_push] at he
      split at he
      · cases he; simp
      · have := h3 i e he; omega
    · intro i j e f he hf' hb
      rw [Array.getElem?_push] at he hf'
      split at he <;> split at hf'
      · omega
      · have := h3 j f hf'; cases he; simp at hb; omega
      · have := h3 i e he; cases hf'; simp at hb; omega
      · exact h4 i j e f he hf' hb
  | some i =>
    obtain ⟨u, hu⟩ := place_lt hp
    have hi : i < es.size := by rw [hlen]; exact (List.getElem?_eq_some_iff.1 hu).1
    have hkey : es[i].key = enc k := by
      have := congrArg (fun l => l[i]?) h2
      simp only [List.getElem?_map, hu, Array.getElem?_toList, Array.getElem?_eq_getElem hi, Option.map_some, Option.some.injEq, Prod.mk.injEq] at this
      exact this.1
    refine ⟨es.modify i fun e => { e with key := enc k, val := v }, clock, ?_, hf, _, _, putMap_heap w b _ _ h1, ?_, ?_, ?_⟩
    · simp only [Option.map_some, Array.getElem?_eq_getElem hi, Option.getD_some, hkey, stays hk, Sem.run_bind, Result.andThen_ok]
      rw [MapKept.run_setObj_map _ h1, putMap_set w b _ _ h1]
    · refine List.ext_getElem? fun j => ?_
      have hj := congrArg (fun l => l[j]?) h2
      simp only [List.getElem?_map, Array.getElem?_toList, Array.getElem?_modify, List.getElem?_set] at hj ⊢
      by_cases hij : i = j
      · subst hij
        simp [Array.getElem?_eq_getElem hi, show i < D.length by omega]
      · simp only [hij, if_false]; exact hj
    · intro j e he
      rw [Array.getElem?_modify] at he
      split at he
      · obtain ⟨x, hx, rfl⟩ := Option.map_eq_some_iff.1 he; exact h3 j x hx
      · exact h3 j e he
    · intro j l e f he hf' hb
      have q : ∀ (j : Nat) (e : MapEntry), (es.modify i fun e => { e with key := enc k, val := v })[j]? = some e → ∃ x, es[j]? = some x ∧ x.born = e.born := by
        intro j e he
        rw [Array.getElem?_modify] at he
        split at he
        · obtain ⟨x, hx, rfl⟩ := Option.map_eq_some_iff.1 he; exact ⟨x, hx, rfl⟩
        · exact ⟨e, he, rfl⟩
      obtain ⟨x, hx, ex⟩ := q j e he
      obtain ⟨y, hy, ey⟩ := q l f hf'
      exact h4 j l x y hx hy (by omega)

/-- 'm[k] = v' in two steps: the entry is found or laid (its stamp), then its value is stored. -/
theorem run_entry_enc (hk : KeyLaw P kt enc) {F : Nat → Prop} {w : World} {b : Nat} {D : List (K × Value)} (h : MapAt F w enc b D) (mt et : TypeId) (hm : P.underlying mt = some (.map kt et)) (z : Value) (hz : ∀ w : World, (zeroValue et).run P w = .ok z w) (k : K) (v : Value) :
    ∃ es c u stamp es' , (∀ w' : World, w'.heap[b]? = w.heap[b]? → (Instr.mapEntry mt (.map (some b)) (enc k)).run P w' = .ok (.tuple #[u, .int .i64 stamp]) (putMap w' b es c)) ∧
      (∀ w' : World, w'.heap[b]? = some (.map es c) → (Instr.entryStore mt (.map (some b)) (.int .i64 stamp) v).run P w' = .ok () (putMap w' b es' c)) ∧
      ∀ w' : World, w'.heap[b]? = some (.map es' c) → MapAt F w' enc b (put k v D) := by
  obtain ⟨hf, es, clock, h1, h2, h3, h4⟩ := h
  have hlen : es.size = D.length := by simpa using congrArg List.length h2
  cases hp : place k D with
  | none =>
    refine ⟨es.push { key := enc k, val := z, born := clock }, clock + 1, z, clock, es.push { key := enc k, val := v, born := clock }, fun w' hw => ?_, fun w' hw => ?_, fun w' hw => ?_⟩
    · have h1' := hw.trans h1
      unfold Instr.mapEntry
      simp only [Sem.run_bind, run_underlying hm, Result.andThen_ok, MapKept.run_getObj_map h1', hk.check, run_findKey_enc hk k es.toList D w' h2, hp, Option.map_none, hz]
      rw [MapKept.run_setObj_map _ h1', putMap_set w' b _ _ h1']
      rfl
    · unfold Instr.entryStore
      have hfi : (es.push { key := enc k, val := z, born := clock }).findIdx? (fun e => (e.born : Int) == (clock : Int)) = some es.size := by
        rw [Array.findIdx?_eq_some_iff_getElem]
        refine ⟨by simp, by simp, fun j hj => ?_⟩
        have := h3 j _ (Array.getElem?_eq_getElem hj)
        rw [Array.getElem_push_lt hj]
        simp; omega
      simp only [Sem.run_bind, Result.andThen_ok, MapKept.run_getObj_map hw, asInt, asIntOf, Sem.run_pure, hfi]
      rw [MapKept.run_setObj_map _ hw, putMap_set w' b _ _ hw]
      congr 2
      refine Array.ext (by simp) fun i q1 q2 => ?_
      simp only [Array.getElem_modify, Array.getElem_push]
      simp at q2
      by_cases hi : i < es.size
      · simp [hi, show es.size ≠ i by omega]
      · obtain rfl : i = es.size := by omega
        simp
    · refine ⟨hf, _, _, hw, ?_, ?_, ?_⟩
      · simp [h2, put, hp]
      · intro i e he
        rw [Array.getElem?_push] at he
        split at he
        · cases he; simp
        · have := h3 i e he; omega
      · intro i j e f he hf' hb
        rw [Array.getElem?_push] at he hf'
        split at he <;> split at hf'
        · omega
        · have := h3 j f hf'; cases he; simp at hb; omega
        · have := h3 i e he; cases hf'; simp at hb; omega
        · exact h4 i j e f he hf' hb
  | some i =>
    obtain ⟨u, hu⟩ := place_lt hp
    have hi : i < es.size := by rw [hlen]; exact (List.getElem?_eq_some_iff.1 hu).1
    have hkey : es[i].key = enc k := by
      have := congrArg (fun l => l[i]?) h2
      simp only [List.getElem?_map, hu, Array.getElem?_toList, Array.getElem?_eq_getElem hi, Option.map_some, Option.some.injEq, Prod.mk.injEq] at this
      exact this.1
    refine ⟨es.modify i fun e => { e with key := enc k }, clock, u, es[i].born, es.modify i fun e => { e with key := enc k, val := v }, fun w' hw => ?_, fun w' hw => ?_, fun w' hw => ?_⟩
    · have h1' := hw.trans h1
      unfold Instr.mapEntry
      simp only [Sem.run_bind, run_underlying hm, Result.andThen_ok, MapKept.run_getObj_map h1', hk.check, run_findKey_enc hk k es.toList D w' h2, hp, Option.map_some, hu, Option.getD_some, Array.getElem?_eq_getElem hi, hkey, stays hk]
      rw [MapKept.run_setObj_map _ h1', putMap_set w' b _ _ h1']
      rfl
    · unfold Instr.entryStore
      have hfi : (es.modify i fun e => { e with key := enc k }).findIdx? (fun e => (e.born : Int) == (es[i].born : Int)) = some i := by
        rw [Array.findIdx?_eq_some_iff_getElem]
        refine ⟨by simpa using hi, by simp [Array.getElem_modify], fun j hj => ?_⟩
        have hj' : j < es.size := by omega
        have hne : es[j].born ≠ es[i].born := fun e => by
          have := h4 j i _ _ (Array.getElem?_eq_getElem hj') (Array.getElem?_eq_getElem hi) e
          omega
        simp [Array.getElem_modify, show i ≠ j by omega]
        omega
      simp only [Sem.run_bind, Result.andThen_ok, MapKept.run_getObj_map hw, asInt, asIntOf, Sem.run_pure, hfi]
      rw [MapKept.run_setObj_map _ hw, putMap_set w' b _ _ hw]
      congr 2
      refine Array.ext (by simp) fun j q1 q2 => ?_
      simp only [Array.getElem_modify]
      by_cases hij : i = j <;> simp [hij]
    · refine ⟨hf, _, _, hw, ?_, ?_, ?_⟩
      · unfold put
        rw [hp]
        refine List.ext_getElem? fun j => ?_
        have hj := congrArg (fun l => l[j]?) h2
        simp only [List.getElem?_map, Array.getElem?_toList, Array.getElem?_modify, List.getElem?_set] at hj ⊢
        by_cases hij : i = j
        · subst hij
          simp [Array.getElem?_eq_getElem hi, show i < D.length by omega]
        · simp only [hij, if_false]; exact hj
      · intro j e he
        rw [Array.getElem?_modify] at he
        split at he
        · obtain ⟨x, hx, rfl⟩ := Option.map_eq_some_iff.1 he; exact h3 j x hx
        · exact h3 j e he
      · intro j l e f he hf' hb
        have q : ∀ (j : Nat) (e : MapEntry), (es.modify i fun e => { e with key := enc k, val := v })[j]? = some e → ∃ x, es[j]? = some x ∧ x.born = e.born := by
          intro j e he
          rw [Array.getElem?_modify] at he
          split at he
          · obtain ⟨x, hx, rfl⟩ := Option.map_eq_some_iff.1 he; exact ⟨x, hx, rfl⟩
          · exact ⟨e, he, rfl⟩
        obtain ⟨x, hx, ex⟩ := q j e he
        obtain ⟨y, hy, ey⟩ := q l f hf'
        exact h4 j l x y hx hy (by omega)
end

theorem Sat.mp_at {K : Type} {enc : K → Value} {w : World} {b : Nat} {D : List (K × Value)} {Rs : List Res} (hS : Sat w (mp enc b D :: Rs)) : MapAt (fun _ => True) w enc b D := by
  obtain ⟨F, hf, h⟩ := hS.first
  exact ⟨trivial, h⟩

/-- The map's block is written anew. -/
theorem Sat.mp_put {K : Type} {enc : K → Value} {w : World} {b : Nat} {D D' : List (K × Value)} {Rs : List Res} (hS : Sat w (mp enc b D :: Rs)) (es : Array MapEntry) (c : Nat)
    (h : MapAt (fun _ => True) (putMap w b es c) enc b D') : Sat (putMap w b es c) (mp enc b D' :: Rs) := by
  refine hS.upd (fun F hF => ⟨(Mods.refl F w).putMap (.inl hF.1) es c, fun F' h1 _ => ⟨h1 _ hF.1, h.2⟩⟩)

theorem run_len_mp {P : Program} {F : Nat → Prop} {w : World} {K : Type} {enc : K → Value} {b : Nat} {D : List (K × Value)} (h : MapAt F w enc b D) (mt kt et : TypeId) (hm : P.underlying mt = some (.map kt et)) (ty : TypeId) :
    (Builtin.len_ #[mt] ty #[.map (some b)]).run P w = .ok (.int .i64 (D.length : Nat)) w := by
  obtain ⟨-, es, clock, h1, h2, -, -⟩ := h
  have hlen : es.size = D.length := by simpa using congrArg List.length h2
  simp [Builtin.len_, run_underlying hm, MapKept.run_getObj_map h1, goInt, hlen]

theorem MapAt.size {F : Nat → Prop} {w : World} {K : Type} {enc : K → Value} {b : Nat} {D : List (K × Value)} (h : MapAt F w enc b D) : b < w.heap.size := by
  obtain ⟨-, es, c, h1, -⟩ := h
  exact (Array.getElem?_eq_some_iff.1 h1).1

@[simp] theorem heap_drew (w : World) : w.drew.heap = w.heap := rfl

end Go.Hal
