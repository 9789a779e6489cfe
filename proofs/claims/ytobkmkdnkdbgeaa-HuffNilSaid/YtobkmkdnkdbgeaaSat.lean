/- A small logic of owned memory: a world that bears a row of resources, each on blocks of its own. -/
import Derived.Below
import Derived.Deep.Draws
import Derived.Deep.AppendSrc
import Derived.Laws.NewBlocks
namespace Go.Hal
open Go.RowKit
set_option linter.unusedVariables false

/-- Outside S the world w' is as w was. -/
structure Mods (S : Nat → Prop) (w w' : World) : Prop where
  os : w'.os = w.os
  tape : w'.tape = w.tape
  output : w'.output = w.output
  size : w.heap.size ≤ w'.heap.size
  block : ∀ k, k < w.heap.size → ¬ S k → w'.heap[k]? = w.heap[k]?

theorem Mods.refl (S : Nat → Prop) (w : World) : Mods S w w := ⟨rfl, rfl, rfl, Nat.le_refl _, fun _ _ _ => rfl⟩
theorem Mods.trans {S : Nat → Prop} {a b c : World} (h : Mods S a b) (k : Mods S b c) : Mods S a c :=
  ⟨k.os.trans h.os, k.tape.trans h.tape, k.output.trans h.output, Nat.le_trans h.size k.size, fun i hi hn => (k.block i (Nat.lt_of_lt_of_le hi h.size) hn).trans (h.block i hi hn)⟩
theorem Mods.mono {S T : Nat → Prop} {a b : World} (h : Mods S a b) (hm : ∀ k, k < a.heap.size → S k → T k) : Mods T a b :=
  ⟨h.os, h.tape, h.output, h.size, fun i hi hn => h.block i hi (fun hs => hn (hm i hi hs))⟩
theorem Mods.drew {S : Nat → Prop} {a b : World} (h : Mods S a b) : Mods S a b.drew := ⟨h.os, h.tape, h.output, h.size, h.block⟩
theorem Mods.drewN {S : Nat → Prop} {a b : World} (h : Mods S a b) (n : Nat) : Mods S a (b.drewN n) := ⟨h.os, h.tape, h.output, h.size, h.block⟩
theorem Mods.alloc {S : Nat → Prop} {a b : World} (h : Mods S a b) (o : Obj) : Mods S a (b.alloc o) :=
  h.trans ⟨rfl, rfl, rfl, by simp, fun k hk _ => Below.heap_alloc _ _ _ hk⟩
theorem Mods.setCell {S : Nat → Prop} {a b : World} (h : Mods S a b) {p : Addr} (hp : S p.block ∨ a.heap.size ≤ p.block) (u : Value) : Mods S a (b.setCell p u) :=
  ⟨h.os, h.tape, h.output, by simpa using h.size, fun k hk hn => by
    rw [Below.heap_setCell _ _ _ _ (by rintro rfl; rcases hp with hp | hp; · exact hn hp
                                       · omega)]
    exact h.block k hk hn⟩
theorem Mods.grown {S : Nat → Prop} {a b c : World} {row : Option Nat} (h : Mods S a b) (hg : b.grownBy c row) (hr : ∀ k, row = some k → S k ∨ a.heap.size ≤ k) : Mods S a c :=
  ⟨hg.os.trans h.os, hg.tape.trans h.tape, hg.output.trans h.output, Nat.le_trans h.size hg.size, fun k hk hn => by
    rw [hg.block k (Nat.lt_of_lt_of_le hk h.size) (fun e => by rcases hr k e.symm with h1 | h1; · exact hn h1
                                                               · omega)]
    exact h.block k hk hn⟩
theorem Mods.below {B : Nat} {a b : World} (h : Mods (fun k => B ≤ k) a b) (hB : B ≤ a.heap.size) : Below B a b :=
  ⟨h.os, h.tape, h.output, h.size, fun k hk => h.block k (by omega) (by omega)⟩
theorem Mods.of_below {S : Nat → Prop} {a b : World} (h : Below a.heap.size a b) : Mods S a b :=
  ⟨h.os, h.tape, h.output, h.size, fun k hk _ => h.block k hk⟩

theorem Mods.cell {a b : World} (h : Mods (fun _ => False) a b) {k i : Nat} (hk : k < a.heap.size) : b.cell? ⟨k, i, none⟩ = a.cell? ⟨k, i, none⟩ := World.cell?_of_block (w := a) (h.block k hk id)
theorem Mods.frozen {a b : World} (h : Mods (fun _ => False) a b) {k i : Nat} (hk : k < a.heap.size) : b.frozen? ⟨k, i, none⟩ = a.frozen? ⟨k, i, none⟩ := World.frozen?_of_block (w := a) (h.block k hk id)

/-- What is carried from w to w': on the blocks of F nothing has turned, and they are F''s. -/
structure Carry (F F' : Nat → Prop) (w w' : World) : Prop where
  os : w'.os = w.os
  tape : w'.tape = w.tape
  output : w'.output = w.output
  size : w.heap.size ≤ w'.heap.size
  block : ∀ k, k < w.heap.size → F k → F' k ∧ w'.heap[k]? = w.heap[k]?

/-- A resource: what is known of some blocks. -/
structure Res where
  P : (Nat → Prop) → World → Prop
  carry : ∀ F F' w w', P F w → Carry F F' w w' → P F' w'

/-- The world bears these resources, each on blocks of its own. -/
def Sat (w : World) (Rs : List Res) : Prop := ∃ own : Nat → Nat, ∀ (i : Nat) (R : Res), Rs[i]? = some R → R.P (fun k => own k = i) w

theorem Carry.mk' {F F' : Nat → Prop} {w w' : World} {S : Nat → Prop} (h : Mods S w w') (hF : ∀ k, k < w.heap.size → F k → F' k ∧ ¬ S k) : Carry F F' w w' :=
  ⟨h.os, h.tape, h.output, h.size, fun k hk hf => ⟨(hF k hk hf).1, h.block k hk (hF k hk hf).2⟩⟩
theorem Carry.same {F F' : Nat → Prop} {w : World} (h : ∀ k, F k → F' k) : Carry F F' w w := ⟨rfl, rfl, rfl, Nat.le_refl _, fun k _ hf => ⟨h k hf, rfl⟩⟩

theorem Sat.nil (w : World) : Sat w [] := ⟨fun _ => 0, fun i R h => by simp at h⟩

/-- The first resource is turned into another, in a later world. -/
theorem Sat.upd {w w' : World} {R R' : Res} {Rs : List Res} (hS : Sat w (R :: Rs))
    (h : ∀ F, R.P F w → Mods F w w' ∧ ∀ F', (∀ k, F k → F' k) → (∀ k, w.heap.size ≤ k → F' k) → R'.P F' w') : Sat w' (R' :: Rs) := by
  obtain ⟨own, ho⟩ := hS
  have h0 := ho 0 R rfl
  obtain ⟨hm, hR⟩ := h _ h0
  refine ⟨fun k => if k < w.heap.size then own k else 0, fun i T hi => ?_⟩
  match i, hi with
  | 0, hi =>
    simp only [List.getElem?_cons_zero, Option.some.injEq] at hi
    subst hi
    exact hR _ (fun k hk => by simp [hk]) (fun k hk => by show (if _ then _ else _) = _; rw [if_neg (by omega)])
  | i + 1, hi =>
    exact T.carry _ _ _ _ (ho (i + 1) T hi) (Carry.mk' hm (fun k hk hf => by simp [hk, hf]))

/-- Two first resources are turned into two others. -/
theorem Sat.upd2 {w w' : World} {R1 R2 R1' R2' : Res} {Rs : List Res} (hS : Sat w (R1 :: R2 :: Rs))
    (h : ∀ F1 F2, R1.P F1 w → R2.P F2 w → (∀ k, F1 k → F2 k → False) → Mods (fun k => F1 k ∨ F2 k) w w' ∧ ∃ F1' F2' : Nat → Prop, (∀ k, k < w.heap.size → F1' k ∨ F2' k → F1 k ∨ F2 k) ∧ (∀ k, F1' k → F2' k → False) ∧ R1'.P F1' w' ∧ R2'.P F2' w') : Sat w' (R1' :: R2' :: Rs) := by
  obtain ⟨own, ho⟩ := hS
  obtain ⟨hm, F1', F2', hsub, hdis, p1, p2⟩ := h _ _ (ho 0 R1 rfl) (ho 1 R2 rfl) (by intro k a b; have a' : own k = 0 := a; have b' : own k = 1 := b; omega)
  refine ⟨fun k => open Classical in if F1' k then 0 else if F2' k then 1 else if k < w.heap.size ∧ own k ≠ 0 ∧ own k ≠ 1 then own k else 0, fun i T hi => ?_⟩
  match i, hi with
  | 0, hi =>
    simp only [List.getElem?_cons_zero, Option.some.injEq] at hi
    subst hi
    exact R1'.carry _ _ _ _ p1 (Carry.same (fun k hk => by simp [hk]))
  | 1, hi =>
    simp only [List.getElem?_cons_succ, List.getElem?_cons_zero, Option.some.injEq] at hi
    subst hi
    exact R2'.carry _ _ _ _ p2 (Carry.same (fun k hk => by have : ¬ F1' k := fun h => hdis k h hk
                                                           simp [hk, this]))
  | i + 2, hi =>
    refine T.carry _ _ _ _ (ho (i + 2) T hi) (Carry.mk' hm (fun k hk hf => ?_))
    have hn : ¬ (own k = 0 ∨ own k = 1) := by omega
    have h1 : ¬ F1' k := fun h => hn (hsub k hk (.inl h))
    have h2 : ¬ F2' k := fun h => hn (hsub k hk (.inr h))
    refine ⟨?_, hn⟩
    simp only [h1, h2, if_false]
    rw [if_pos ⟨hk, by omega, by omega⟩]
    exact hf

/-- In a later world with nothing turned (draws; new blocks). -/
theorem Sat.keep {w w' : World} {Rs : List Res} (hS : Sat w Rs) (h : Mods (fun _ => False) w w') : Sat w' Rs := by
  obtain ⟨own, ho⟩ := hS
  exact ⟨own, fun i R hi => R.carry _ _ _ _ (ho i R hi) (Carry.mk' h (fun k _ hf => ⟨hf, id⟩))⟩
theorem Sat.drew {w : World} {Rs : List Res} (hS : Sat w Rs) : Sat w.drew Rs := hS.keep (Mods.refl _ _).drew
theorem Sat.drewN {w : World} {Rs : List Res} (hS : Sat w Rs) (n : Nat) : Sat (w.drewN n) Rs := hS.keep ((Mods.refl _ _).drewN n)
theorem Sat.alloc_drop {w : World} {Rs : List Res} (hS : Sat w Rs) (o : Obj) : Sat (w.alloc o) Rs := hS.keep ((Mods.refl _ _).alloc o)

/-- The resources in another order, some dropped. -/
theorem Sat.pick {w : World} {Rs : List Res} (hS : Sat w Rs) (l : List Nat) (Rs' : List Res) (h : l.map (fun i => Rs[i]?) = Rs'.map some) (hn : l.Nodup) : Sat w Rs' := by
  obtain ⟨own, ho⟩ := hS
  refine ⟨fun k => l.idxOf (own k), fun i R hi => ?_⟩
  have hlen : l.length = Rs'.length := by simpa using congrArg List.length h
  have hil : i < l.length := by rw [hlen]; exact (List.getElem?_eq_some_iff.1 hi).1
  have hli : Rs[l[i]]? = some R := by
    have := congrArg (fun x => x[i]?) h
    simp only [List.getElem?_map, hi, List.getElem?_eq_getElem hil, Option.map_some, Option.some.injEq] at this
    exact this
  refine R.carry _ _ _ _ (ho _ R hli) (Carry.same (fun k hk => ?_))
  show List.idxOf (own k) l = i
  rw [hk]
  exact List.Nodup.idxOf_getElem hn i hil

/-- The first two change places. -/
theorem Sat.swap {w : World} {A B : Res} {Rs : List Res} (hS : Sat w (A :: B :: Rs)) : Sat w (B :: A :: Rs) := by
  obtain ⟨own, ho⟩ := hS
  refine ⟨fun k => if own k = 0 then 1 else if own k = 1 then 0 else own k, fun i T hi => ?_⟩
  match i, hi with
  | 0, hi => exact T.carry _ _ _ _ (ho 1 T hi) (Carry.same (fun k hk => by simp [hk]))
  | 1, hi => exact T.carry _ _ _ _ (ho 0 T hi) (Carry.same (fun k hk => by simp [hk]))
  | i + 2, hi => exact T.carry _ _ _ _ (ho (i + 2) T hi) (Carry.same (fun k hk => by simp [hk]))

theorem Sat.tail {w : World} {R : Res} {Rs : List Res} (hS : Sat w (R :: Rs)) : Sat w Rs := by
  obtain ⟨own, ho⟩ := hS
  refine ⟨fun k => own k - 1, fun i T hi => T.carry _ _ _ _ (ho (i + 1) T hi) (Carry.same (fun k hk => ?_))⟩
  have hk' : own k = i + 1 := hk
  show own k - 1 = i
  omega

/-- Resource number i comes to the front. -/
theorem Sat.front {w : World} {Rs : List Res} (hS : Sat w Rs) (i : Nat) (R : Res) (h : Rs[i]? = some R) : Sat w (R :: Rs.eraseIdx i) := by
  obtain ⟨own, ho⟩ := hS
  refine ⟨fun k => if own k = i then 0 else if own k < i then own k + 1 else own k, fun j T hj => ?_⟩
  match j, hj with
  | 0, hj =>
    simp only [List.getElem?_cons_zero, Option.some.injEq] at hj
    subst hj
    exact R.carry _ _ _ _ (ho i R h) (Carry.same (fun k hk => by have hk' : own k = i := hk; simp [hk']))
  | j + 1, hj =>
    simp only [List.getElem?_cons_succ, List.getElem?_eraseIdx] at hj
    by_cases hji : j < i
    · rw [if_pos hji] at hj
      refine T.carry _ _ _ _ (ho j T hj) (Carry.same (fun k hk => ?_))
      have hk' : own k = j := hk
      show (if _ then _ else _) = _
      rw [if_neg (by omega), if_pos (by omega)]; omega
    · rw [if_neg hji] at hj
      refine T.carry _ _ _ _ (ho (j + 1) T hj) (Carry.same (fun k hk => ?_))
      have hk' : own k = j + 1 := hk
      show (if _ then _ else _) = _
      rw [if_neg (by omega), if_neg (by omega)]; omega

/-- The first one goes to place i. -/
theorem Sat.back {w : World} {R : Res} {Rs : List Res} (hS : Sat w (R :: Rs)) (i : Nat) (hi : i ≤ Rs.length) : Sat w (Rs.insertIdx i R) := by
  obtain ⟨own, ho⟩ := hS
  refine ⟨fun k => if own k = 0 then i else if own k ≤ i then own k - 1 else own k, fun j T hj => ?_⟩
  rw [List.getElem?_insertIdx] at hj
  by_cases hji : j < i
  · rw [if_pos hji] at hj
    refine T.carry _ _ _ _ (ho (j + 1) T hj) (Carry.same (fun k hk => ?_))
    have hk' : own k = j + 1 := hk
    show (if _ then _ else _) = _
    rw [if_neg (by omega), if_pos (by omega)]; omega
  · rw [if_neg hji] at hj
    by_cases hje : j = i
    · rw [if_pos hje, if_pos (by omega)] at hj
      simp only [Option.some.injEq] at hj
      subst hj
      refine R.carry _ _ _ _ (ho 0 R rfl) (Carry.same (fun k hk => ?_))
      have hk' : own k = 0 := hk
      show (if _ then _ else _) = _
      rw [if_pos hk']; omega
    · rw [if_neg hje] at hj
      obtain ⟨j, rfl⟩ : ∃ m, j = m + 1 := ⟨j - 1, by omega⟩
      simp only [Nat.add_sub_cancel] at hj
      refine T.carry _ _ _ _ (ho (j + 1) T hj) (Carry.same (fun k hk => ?_))
      have hk' : own k = j + 1 := hk
      show (if _ then _ else _) = _
      rw [if_neg (by omega), if_neg (by omega)]; omega

/-- The first ones in another order, some dropped; the rest stays. -/
theorem Sat.perm {w : World} {As Rs : List Res} (hS : Sat w (As ++ Rs)) (l : List Nat) (Bs : List Res) (h : l.map (fun i => As[i]?) = Bs.map some) (hn : l.Nodup) : Sat w (Bs ++ Rs) := by
  have hl : ∀ i ∈ l, i < As.length := by
    intro i hi
    have : As[i]? ∈ l.map (fun i => As[i]?) := List.mem_map.2 ⟨i, hi, rfl⟩
    rw [h] at this
    obtain ⟨R, _, hR⟩ := List.mem_map.1 this
    exact (List.getElem?_eq_some_iff.1 hR.symm).1
  refine hS.pick (l ++ List.range' As.length Rs.length) (Bs ++ Rs) ?_ ?_
  · rw [List.map_append, List.map_append, ← h]
    congr 1
    · refine List.map_congr_left fun i hi => ?_
      rw [List.getElem?_append_left (hl i hi)]
    · refine List.ext_getElem? fun k => ?_
      by_cases hk : k < Rs.length
      · simp [hk]
      · simp [List.getElem?_eq_none (show Rs.length ≤ k by omega)]
        omega
  · rw [List.nodup_append]
    refine ⟨hn, List.nodup_range', fun a ha b hb => ?_⟩
    have h1 := hl a ha
    have h2 := List.mem_range'.1 hb
    omega

/-- Two first resources as one. -/
def star (A B : Res) : Res where
  P F w := ∃ G : Nat → Prop, A.P (fun k => F k ∧ G k) w ∧ B.P (fun k => F k ∧ ¬ G k) w
  carry F F' w w' := by
    rintro ⟨G, ha, hb⟩ hc
    exact ⟨G, A.carry _ _ _ _ ha ⟨hc.os, hc.tape, hc.output, hc.size, fun k hk hf => ⟨⟨(hc.block k hk hf.1).1, hf.2⟩, (hc.block k hk hf.1).2⟩⟩,
      B.carry _ _ _ _ hb ⟨hc.os, hc.tape, hc.output, hc.size, fun k hk hf => ⟨⟨(hc.block k hk hf.1).1, hf.2⟩, (hc.block k hk hf.1).2⟩⟩⟩

theorem Sat.star_in {w : World} {A B : Res} {Rs : List Res} (hS : Sat w (A :: B :: Rs)) : Sat w (star A B :: Rs) := by
  obtain ⟨own, ho⟩ := hS
  refine ⟨fun k => own k - 1, fun i T hi => ?_⟩
  match i, hi with
  | 0, hi =>
    simp only [List.getElem?_cons_zero, Option.some.injEq] at hi
    subst hi
    refine ⟨fun k => own k = 0, A.carry _ _ _ _ (ho 0 A rfl) (Carry.same (fun k hk => ?_)), B.carry _ _ _ _ (ho 1 B rfl) (Carry.same (fun k hk => ?_))⟩
    · have hk' : own k = 0 := hk
      exact ⟨by show own k - 1 = 0; omega, hk⟩
    · have hk' : own k = 1 := hk
      exact ⟨by show own k - 1 = 0; omega, by show ¬ own k = 0; omega⟩
  | i + 1, hi => exact T.carry _ _ _ _ (ho (i + 2) T hi) (Carry.same (fun k hk => by have hk' : own k = i + 2 := hk; show own k - 1 = i + 1; omega))

theorem Sat.star_out {w : World} {A B : Res} {Rs : List Res} (hS : Sat w (star A B :: Rs)) : Sat w (A :: B :: Rs) := by
  obtain ⟨own, ho⟩ := hS
  obtain ⟨G, ha, hb⟩ := ho 0 _ rfl
  refine ⟨fun k => open Classical in if own k = 0 then (if G k then 0 else 1) else own k + 1, fun i T hi => ?_⟩
  match i, hi with
  | 0, hi =>
    simp only [List.getElem?_cons_zero, Option.some.injEq] at hi
    subst hi
    exact A.carry _ _ _ _ ha (Carry.same (fun k hk => by simp [hk.1, hk.2]))
  | 1, hi =>
    simp only [List.getElem?_cons_succ, List.getElem?_cons_zero, Option.some.injEq] at hi
    subst hi
    exact B.carry _ _ _ _ hb (Carry.same (fun k hk => by simp [hk.1, hk.2]))
  | i + 2, hi => exact T.carry _ _ _ _ (ho (i + 1) T hi) (Carry.same (fun k hk => by
      show (if own k = 0 then _ else _) = _
      rw [if_neg (by omega)]; omega))

/-- Some resources as one. -/
def bag (l : List Res) : Res where
  P F w := ∃ own : Nat → Nat, ∀ (i : Nat) (R : Res), l[i]? = some R → R.P (fun k => F k ∧ own k = i) w
  carry F F' w w' := by
    rintro ⟨own, ho⟩ hc
    exact ⟨own, fun i R hi => R.carry _ _ _ _ (ho i R hi) ⟨hc.os, hc.tape, hc.output, hc.size, fun k hk hf => ⟨⟨(hc.block k hk hf.1).1, hf.2⟩, (hc.block k hk hf.1).2⟩⟩⟩

theorem Sat.bag_in {w : World} {As Rs : List Res} (hS : Sat w (As ++ Rs)) : Sat w (bag As :: Rs) := by
  obtain ⟨own, ho⟩ := hS
  refine ⟨fun k => own k + 1 - As.length, fun i T hi => ?_⟩
  match i, hi with
  | 0, hi =>
    simp only [List.getElem?_cons_zero, Option.some.injEq] at hi
    subst hi
    refine ⟨own, fun i R hR => R.carry _ _ _ _ (ho i R ?_) (Carry.same (fun k hk => ?_))⟩
    · rw [List.getElem?_append_left (List.getElem?_eq_some_iff.1 hR).1]; exact hR
    · have hk' : own k = i := hk
      have := (List.getElem?_eq_some_iff.1 hR).1
      exact ⟨by show own k + 1 - As.length = 0; omega, hk'⟩
  | i + 1, hi =>
    refine T.carry _ _ _ _ (ho (As.length + i) T ?_) (Carry.same (fun k hk => ?_))
    · rw [List.getElem?_append_right (by omega), show As.length + i - As.length = i by omega]; exact hi
    · have hk' : own k = As.length + i := hk
      show own k + 1 - As.length = i + 1
      omega

theorem Sat.bag_out {w : World} {As Rs : List Res} (hS : Sat w (bag As :: Rs)) : Sat w (As ++ Rs) := by
  obtain ⟨own, ho⟩ := hS
  obtain ⟨o2, h2⟩ := ho 0 _ rfl
  refine ⟨fun k => if own k = 0 then (if o2 k < As.length then o2 k else As.length + Rs.length) else As.length + (own k - 1), fun i T hi => ?_⟩
  by_cases h : i < As.length
  · rw [List.getElem?_append_left h] at hi
    refine T.carry _ _ _ _ (h2 i T hi) (Carry.same (fun k hk => ?_))
    obtain ⟨k1, k2⟩ := hk
    simp only [k1, k2, h, if_true]
  · rw [List.getElem?_append_right (by omega)] at hi
    refine T.carry _ _ _ _ (ho (i - As.length + 1) T hi) (Carry.same (fun k hk => ?_))
    have hk' : own k = i - As.length + 1 := hk
    show (if _ then _ else _) = _
    rw [if_neg (by omega)]; omega

/-- A fact with no memory. -/
def pur (p : Prop) : Res where
  P _ _ := p
  carry _ _ _ _ h _ := h

/-- A resource with something unknown in it. -/
def ex {α : Type} (R : α → Res) : Res where
  P F w := ∃ x, (R x).P F w
  carry F F' w w' := fun ⟨x, h⟩ hc => ⟨x, (R x).carry _ _ _ _ h hc⟩

theorem Sat.ex_in {α : Type} {w : World} {R : α → Res} {Rs : List Res} (x : α) (hS : Sat w (R x :: Rs)) : Sat w (ex R :: Rs) := by
  obtain ⟨own, ho⟩ := hS
  refine ⟨own, fun i T hi => ?_⟩
  match i, hi with
  | 0, hi =>
    simp only [List.getElem?_cons_zero, Option.some.injEq] at hi
    subst hi
    exact ⟨x, ho 0 _ rfl⟩
  | i + 1, hi => exact ho (i + 1) T hi

theorem Sat.ex_out {α : Type} {w : World} {R : α → Res} {Rs : List Res} (hS : Sat w (ex R :: Rs)) : ∃ x, Sat w (R x :: Rs) := by
  obtain ⟨own, ho⟩ := hS
  obtain ⟨x, hx⟩ := ho 0 _ rfl
  refine ⟨x, own, fun i T hi => ?_⟩
  match i, hi with
  | 0, hi =>
    simp only [List.getElem?_cons_zero, Option.some.injEq] at hi
    subst hi
    exact hx
  | i + 1, hi => exact ho (i + 1) T hi

theorem Sat.first {w : World} {R : Res} {Rs : List Res} (hS : Sat w (R :: Rs)) : ∃ F, R.P F w := by
  obtain ⟨own, ho⟩ := hS
  exact ⟨_, ho 0 R rfl⟩
theorem Sat.at_ {w : World} {Rs : List Res} (hS : Sat w Rs) (i : Nat) (R : Res) (h : Rs[i]? = some R) : ∃ F, R.P F w := by
  obtain ⟨own, ho⟩ := hS
  exact ⟨_, ho i R h⟩

/-- The same blocks, told otherwise. -/
theorem Sat.conv {w : World} {R R' : Res} {Rs : List Res} (hS : Sat w (R :: Rs)) (h : ∀ F, R.P F w → R'.P F w) : Sat w (R' :: Rs) := by
  obtain ⟨own, ho⟩ := hS
  refine ⟨own, fun i T hi => ?_⟩
  match i, hi with
  | 0, hi =>
    simp only [List.getElem?_cons_zero, Option.some.injEq] at hi
    subst hi
    exact h _ (ho 0 _ rfl)
  | i + 1, hi => exact ho (i + 1) T hi

/-- A block, whole. -/
def blk (b : Nat) (o : Obj) : Res where
  P F w := F b ∧ w.heap[b]? = some o
  carry F F' w w' := fun ⟨hf, hb⟩ hc => by
    obtain ⟨h1, h2⟩ := hc.block b (Array.getElem?_eq_some_iff.1 hb).1 hf
    exact ⟨h1, h2.trans hb⟩

theorem Sat.heap {w : World} {b : Nat} {o : Obj} {Rs : List Res} (hS : Sat w (blk b o :: Rs)) : w.heap[b]? = some o := (hS.first).choose_spec.2

/-- A resource that has a block for itself. -/
def Res.owns (R : Res) (k : Nat) : Prop := ∀ F w, R.P F w → F k
theorem blk_owns (b : Nat) (o : Obj) : (blk b o).owns b := fun _ _ h => h.1
theorem Sat.apart {w : World} {Rs : List Res} (hS : Sat w Rs) (i j : Nat) {R T : Res} (hi : Rs[i]? = some R) (hj : Rs[j]? = some T) (hij : i ≠ j) {k l : Nat} (hk : R.owns k) (hl : T.owns l) : k ≠ l := by
  obtain ⟨own, ho⟩ := hS
  have h1 : own k = i := hk _ _ (ho i R hi)
  have h2 : own l = j := hl _ _ (ho j T hj)
  rintro rfl
  omega

/-- A new block. -/
theorem Sat.alloc {w : World} {Rs : List Res} (hS : Sat w Rs) (o : Obj) : Sat (w.alloc o) (blk w.heap.size o :: Rs) := by
  obtain ⟨own, ho⟩ := hS
  refine ⟨fun k => if k < w.heap.size then own k + 1 else 0, fun i T hi => ?_⟩
  match i, hi with
  | 0, hi =>
    simp only [List.getElem?_cons_zero, Option.some.injEq] at hi
    subst hi
    exact ⟨by simp, heap_alloc_new w o⟩
  | i + 1, hi =>
    exact T.carry _ _ _ _ (ho i T hi) (Carry.mk' ((Mods.refl (fun _ => False) w).alloc o) (fun k hk hf => ⟨by show (if _ then _ else _) = _; rw [if_pos hk]; omega, id⟩))

theorem Sat.setCell {w : World} {b i : Nat} {c : Array Value} {e : TypeId} {fr : Nat × Nat} {Rs : List Res} (hS : Sat w (blk b (.cells c e fr) :: Rs)) (v : Value) :
    Sat (w.setCell ⟨b, i, none⟩ v) (blk b (.cells (c.setIfInBounds i v) e fr) :: Rs) := by
  refine hS.upd (fun F hF => ⟨(Mods.refl F w).setCell (.inl hF.1) v, fun F' h1 _ => ⟨h1 _ hF.1, ?_⟩⟩)
  simp [World.setCell, Array.getElem?_modify, hF.2]

/-- All memory that lies in the world w0, as it was there. -/
def env (w0 : World) : Res where
  P F w := w.os = w0.os ∧ w.tape = w0.tape ∧ w.output = w0.output ∧ w0.heap.size ≤ w.heap.size ∧ ∀ k, k < w0.heap.size → F k ∧ w.heap[k]? = w0.heap[k]?
  carry F F' w w' := fun ⟨h1, h2, h3, h4, h5⟩ hc => ⟨hc.os.trans h1, hc.tape.trans h2, hc.output.trans h3, Nat.le_trans h4 hc.size, fun k hk => by
    obtain ⟨a, b⟩ := hc.block k (by omega) (h5 k hk).1
    exact ⟨a, b.trans (h5 k hk).2⟩⟩

theorem Sat.start (w : World) : Sat w [env w] := ⟨fun _ => 0, fun i R hi => by
  match i, hi with
  | 0, hi =>
    simp only [List.getElem?_cons_zero, Option.some.injEq] at hi
    subst hi
    exact ⟨rfl, rfl, rfl, Nat.le_refl _, fun k _ => ⟨rfl, rfl⟩⟩
  | i + 1, hi => simp at hi⟩

theorem Sat.below {w0 w : World} {Rs : List Res} (hS : Sat w (env w0 :: Rs)) : Below w0.heap.size w0 w := by
  obtain ⟨F, h1, h2, h3, h4, h5⟩ := hS.first
  exact ⟨h1, h2, h3, h4, fun k hk => (h5 k hk).2⟩

end Go.Hal
