/- A small logic of owned memory: a world that bears a row of resources, each on blocks of its own. Bits of bytes and numbers of bits: plain laws. Go's integers: and, or, xor, shifts of small numbers, in Nat's words. Slices as resources: reading, making, appending. -/
import Derived.Below
import Derived.Deep.Draws
import Derived.Deep.AppendSrc
import Derived.Laws.NewBlocks
import Derived.WalkKit
import Derived.WalkSpells
import Derived.WalkLawsBesides
import Derived.Lib.Hide
namespace Go.Hal
open Go.RowKit
set_option linter.unusedVariables false

/-- Outside S the world w' is as w was. -/
structure Mods (S : Nat → Prop) (w w' : World) : Prop where
  os : w'.os = w.os
  tape : w'.tape = w.tape
  output : w'.output = w.output
  size : w.heap.size ≤ w'.heap.size
  block : ∀ k, k < w.heap.size → ¬ S k → w'.heap[k]? = w.heap[k]?

theorem Mods.refl (S : Nat → Prop) (w : World) : Mods S w w := ⟨rfl, rfl, rfl, Nat.le_refl _, fun _ _ _ => rfl⟩
theorem Mods.trans {S : Nat → Prop} {a b c : World} (h : Mods S a b) (k : Mods S b c) : Mods S a c :=
  ⟨k.os.trans h.os, k.tape.trans h.tape, k.output.trans h.output, Nat.le_trans h.size k.size, fun i hi hn => (k.block i (Nat.lt_of_lt_of_le hi h.size) hn).trans (h.block i hi hn)⟩
theorem Mods.mono {S T : Nat → Prop} {a b : World} (h : Mods S a b) (hm : ∀ k, k < a.heap.size → S k → T k) : Mods T a b :=
  ⟨h.os, h.tape, h.output, h.size, fun i hi hn => h.block i hi (fun hs => hn (hm i hi hs))⟩
theorem Mods.drew {S : Nat → Prop} {a b : World} (h : Mods S a b) : Mods S a b.drew := ⟨h.os, h.tape, h.output, h.size, h.block⟩
theorem Mods.drewN {S : Nat → Prop} {a b : World} (h : Mods S a b) (n : Nat) : Mods S a (b.drewN n) := ⟨h.os, h.tape, h.output, h.size, h.block⟩
theorem Mods.alloc {S : Nat → Prop} {a b : World} (h : Mods S a b) (o : Obj) : Mods S a (b.alloc o) :=
  h.trans ⟨rfl, rfl, rfl, by simp, fun k hk _ => Below.heap_alloc _ _ _ hk⟩
theorem Mods.setCell {S : Nat → Prop} {a b : World} (h : Mods S a b) {p : Addr} (hp : S p.block ∨ a.heap.size ≤ p.block) (u : Value) : Mods S a (b.setCell p u) :=
  ⟨h.os, h.tape, h.output, by simpa using h.size, fun k hk hn => by
    rw [Below.heap_setCell _ _ _ _ (by rintro rfl; rcases hp with hp | hp; · exact hn hp
                                       · omega)]
    exact h.block k hk hn⟩
theorem Mods.grown {S : Nat → Prop} {a b c : World} {row : Option Nat} (h : Mods S a b) (hg : b.grownBy c row) (hr : ∀ k, row = some k → S k ∨ a.heap.size ≤ k) : Mods S a c :=
  ⟨hg.os.trans h.os, hg.tape.trans h.tape, hg.output.trans h.output, Nat.le_trans h.size hg.size, fun k hk hn => by
    rw [hg.block k (Nat.lt_of_lt_of_le hk h.size) (fun e => by rcases hr k e.symm with h1 | h1; · exact hn h1
                                                               · omega)]
    exact h.block k hk hn⟩
theorem Mods.below {B : Nat} {a b : World} (h : Mods (fun k => B ≤ k) a b) (hB : B ≤ a.heap.size) : Below B a b :=
  ⟨h.os, h.tape, h.output, h.size, fun k hk => h.block k (by omega) (by omega)⟩
theorem Mods.of_below {S : Nat → Prop} {a b : World} (h : Below a.heap.size a b) : Mods S a b :=
  ⟨h.os, h.tape, h.output, h.size, fun k hk _ => h.block k hk⟩

theorem Mods.cell {a b : World} (h : Mods (fun _ => False) a b) {k i : Nat} (hk : k < a.heap.size) : b.cell? ⟨k, i, none⟩ = a.cell? ⟨k, i, none⟩ := World.cell?_of_block (w := a) (h.block k hk id)
theorem Mods.frozen {a b : World} (h : Mods (fun _ => False) a b) {k i : Nat} (hk : k < a.heap.size) : b.frozen? ⟨k, i, none⟩ = a.frozen? ⟨k, i, none⟩ := World.frozen?_of_block (w := a) (h.block k hk id)

/-- What is carried from w to w': on the blocks of F nothing has turned, and they are F''s. -/
structure Carry (F F' : Nat → Prop) (w w' : World) : Prop where
  os : w'.os = w.os
  tape : w'.tape = w.tape
  output : w'.output = w.output
  size : w.heap.size ≤ w'.heap.size
  block : ∀ k, k < w.heap.size → F k → F' k ∧ w'.heap[k]? = w.heap[k]?

/-- A resource: what is known of some blocks. -/
structure Res where
  P : (Nat → Prop) → World → Prop
  carry : ∀ F F' w w', P F w → Carry F F' w w' → P F' w'

/-- The world bears these resources, each on blocks of its own. -/
def Sat (w : World) (Rs : List Res) : Prop := ∃ own : Nat → Nat, ∀ (i : Nat) (R : Res), Rs[i]? = some R → R.P (fun k => own k = i) w

theorem Carry.mk' {F F' : Nat → Prop} {w w' : World} {S : Nat → Prop} (h : Mods S w w') (hF : ∀ k, k < w.heap.size → F k → F' k ∧ ¬ S k) : Carry F F' w w' :=
  ⟨h.os, h.tape, h.output, h.size, fun k hk hf => ⟨(hF k hk hf).1, h.block k hk (hF k hk hf).2⟩⟩
theorem Carry.same {F F' : Nat → Prop} {w : World} (h : ∀ k, F k → F' k) : Carry F F' w w := ⟨rfl, rfl, rfl, Nat.le_refl _, fun k _ hf => ⟨h k hf, rfl⟩⟩

theorem Sat.nil (w : World) : Sat w [] := ⟨fun _ => 0, fun i R h => by simp at h⟩

/-- The first resource is turned into another, in a later world. -/
theorem Sat.upd {w w' : World} {R R' : Res} {Rs : List Res} (hS : Sat w (R :: Rs))
    (h : ∀ F, R.P F w → Mods F w w' ∧ ∀ F', (∀ k, F k → F' k) → (∀ k, w.heap.size ≤ k → F' k) → R'.P F' w') : Sat w' (R' :: Rs) := by
  obtain ⟨own, ho⟩ := hS
  have h0 := ho 0 R rfl
  obtain ⟨hm, hR⟩ := h _ h0
  refine ⟨fun k => if k < w.heap.size then own k else 0, fun i T hi => ?_⟩
  match i, hi with
  | 0, hi =>
    simp only [List.getElem?_cons_zero, Option.some.injEq] at hi
    subst hi
    exact hR _ (fun k hk => by simp [hk]) (fun k hk => by show (if _ then _ else _) = _; rw [if_neg (by omega)])
  | i + 1, hi =>
    exact T.carry _ _ _ _ (ho (i + 1) T hi) (Carry.mk' hm (fun k hk hf => by simp [hk, hf]))

/-- Two first resources are turned into two others. -/
theorem Sat.upd2 {w w' : World} {R1 R2 R1' R2' : Res} {Rs : List Res} (hS : Sat w (R1 :: R2 :: Rs))
    (h : ∀ F1 F2, R1.P F1 w → R2.P F2 w → (∀ k, F1 k → F2 k → False) → Mods (fun k => F1 k ∨ F2 k) w w' ∧ ∃ F1' F2' : Nat → Prop, (∀ k, k < w.heap.size → F1' k ∨ F2' k → F1 k ∨ F2 k) ∧ (∀ k, F1' k → F2' k → False) ∧ R1'.P F1' w' ∧ R2'.P F2' w') : Sat w' (R1' :: R2' :: Rs) := by
  obtain ⟨own, ho⟩ := hS
  obtain ⟨hm, F1', F2', hsub, hdis, p1, p2⟩ := h _ _ (ho 0 R1 rfl) (ho 1 R2 rfl) (by intro k a b; have a' : own k = 0 := a; have b' : own k = 1 := b; omega)
  refine ⟨fun k => open Classical in if F1' k then 0 else if F2' k then 1 else if k < w.heap.size ∧ own k ≠ 0 ∧ own k ≠ 1 then own k else 0, fun i T hi => ?_⟩
  match i, hi with
  | 0, hi =>
    simp only [List.getElem?_cons_zero, Option.some.injEq] at hi
    subst hi
    exact R1'.carry _ _ _ _ p1 (Carry.same (fun k hk => by simp [hk]))
  | 1, hi =>
    simp only [List.getElem?_cons_succ, List.getElem?_cons_zero, Option.some.injEq] at hi
    subst hi
    exact R2'.carry _ _ _ _ p2 (Carry.same (fun k hk => by have : ¬ F1' k := fun h => hdis k h hk
                                                           simp [hk, this]))
  | i + 2, hi =>
    refine T.carry _ _ _ _ (ho (i + 2) T hi) (Carry.mk' hm (fun k hk hf => ?_))
    have hn : ¬ (own k = 0 ∨ own k = 1) := by omega
    have h1 : ¬ F1' k := fun h => hn (hsub k hk (.inl h))
    have h2 : ¬ F2' k := fun h => hn (hsub k hk (.inr h))
    refine ⟨?_, hn⟩
    simp only [h1, h2, if_false]
    rw [if_pos ⟨hk, by omega, by omega⟩]
    exact hf

/-- In a later world with nothing turned (draws; new blocks). -/
theorem Sat.keep {w w' : World} {Rs : List Res} (hS : Sat w Rs) (h : Mods (fun _ => False) w w') : Sat w' Rs := by
  obtain ⟨own, ho⟩ := hS
  exact ⟨own, fun i R hi => R.carry _ _ _ _ (ho i R hi) (Carry.mk' h (fun k _ hf => ⟨hf, id⟩))⟩
theorem Sat.drew {w : World} {Rs : List Res} (hS : Sat w Rs) : Sat w.drew Rs := hS.keep (Mods.refl _ _).drew
theorem Sat.drewN {w : World} {Rs : List Res} (hS : Sat w Rs) (n : Nat) : Sat (w.drewN n) Rs := hS.keep ((Mods.refl _ _).drewN n)
theorem Sat.alloc_drop {w : World} {Rs : List Res} (hS : Sat w Rs) (o : Obj) : Sat (w.alloc o) Rs := hS.keep ((Mods.refl _ _).alloc o)

/-- The resources in another order, some dropped. -/
theorem Sat.pick {w : World} {Rs : List Res} (hS : Sat w Rs) (l : List Nat) (Rs' : List Res) (h : l.map (fun i => Rs[i]?) = Rs'.map some) (hn : l.Nodup) : Sat w Rs' := by
  obtain ⟨own, ho⟩ := hS
  refine ⟨fun k => l.idxOf (own k), fun i R hi => ?_⟩
  have hlen : l.length = Rs'.length := by simpa using congrArg List.length h
  have hil : i < l.length := by rw [hlen]; exact (List.getElem?_eq_some_iff.1 hi).1
  have hli : Rs[l[i]]? = some R := by
    have := congrArg (fun x => x[i]?) h
    simp only [List.getElem?_map, hi, List.getElem?_eq_getElem hil, Option.map_some, Option.some.injEq] at this
    exact this
  refine R.carry _ _ _ _ (ho _ R hli) (Carry.same (fun k hk => ?_))
  show List.idxOf (own k) l = i
  rw [hk]
  exact List.Nodup.idxOf_getElem hn i hil

/-- The first two change places. -/
theorem Sat.swap {w : World} {A B : Res} {Rs : List Res} (hS : Sat w (A :: B :: Rs)) : Sat w (B :: A :: Rs) := by
  obtain ⟨own, ho⟩ := hS
  refine ⟨fun k => if own k = 0 then 1 else if own k = 1 then 0 else own k, fun i T hi => ?_⟩
  match i, hi with
  | 0, hi => exact T.carry _ _ _ _ (ho 1 T hi) (Carry.same (fun k hk => by simp [hk]))
  | 1, hi => exact T.carry _ _ _ _ (ho 0 T hi) (Carry.same (fun k hk => by simp [hk]))
  | i + 2, hi => exact T.carry _ _ _ _ (ho (i + 2) T hi) (Carry.same (fun k hk => by simp [hk]))

theorem Sat.tail {w : World} {R : Res} {Rs : List Res} (hS : Sat w (R :: Rs)) : Sat w Rs := by
  obtain ⟨own, ho⟩ := hS
  refine ⟨fun k => own k - 1, fun i T hi => T.carry _ _ _ _ (ho (i + 1) T hi) (Carry.same (fun k hk => ?_))⟩
  have hk' : own k = i + 1 := hk
  show own k - 1 = i
  omega

/-- Resource number i comes to the front. -/
theorem Sat.front {w : World} {Rs : List Res} (hS : Sat w Rs) (i : Nat) (R : Res) (h : Rs[i]? = some R) : Sat w (R :: Rs.eraseIdx i) := by
  obtain ⟨own, ho⟩ := hS
  refine ⟨fun k => if own k = i then 0 else if own k < i then own k + 1 else own k, fun j T hj => ?_⟩
  match j, hj with
  | 0, hj =>
    simp only [List.getElem?_cons_zero, Option.some.injEq] at hj
    subst hj
    exact R.carry _ _ _ _ (ho i R h) (Carry.same (fun k hk => by have hk' : own k = i := hk; simp [hk']))
  | j + 1, hj =>
    simp only [List.getElem?_cons_succ, List.getElem?_eraseIdx] at hj
    by_cases hji : j < i
    · rw [if_pos hji] at hj
      refine T.carry _ _ _ _ (ho j T hj) (Carry.same (fun k hk => ?_))
      have hk' : own k = j := hk
      show (if _ then _ else _) = _
      rw [if_neg (by omega), if_pos (by omega)]; omega
    · rw [if_neg hji] at hj
      refine T.carry _ _ _ _ (ho (j + 1) T hj) (Carry.same (fun k hk => ?_))
      have hk' : own k = j + 1 := hk
      show (if _ then _ else _) = _
      rw [if_neg (by omega), if_neg (by omega)]; omega

/-- The first one goes to place i. -/
theorem Sat.back {w : World} {R : Res} {Rs : List Res} (hS : Sat w (R :: Rs)) (i : Nat) (hi : i ≤ Rs.length) : Sat w (Rs.insertIdx i R) := by
  obtain ⟨own, ho⟩ := hS
  refine ⟨fun k => if own k = 0 then i else if own k ≤ i then own k - 1 else own k, fun j T hj => ?_⟩
  rw [List.getElem?_insertIdx] at hj
  by_cases hji : j < i
  · rw [if_pos hji] at hj
    refine T.carry _ _ _ _ (ho (j + 1) T hj) (Carry.same (fun k hk => ?_))
    have hk' : own k = j + 1 := hk
    show (if _ then _ else _) = _
    rw [if_neg (by omega), if_pos (by omega)]; omega
  · rw [if_neg hji] at hj
    by_cases hje : j = i
    · rw [if_pos hje, if_pos (by omega)] at hj
      simp only [Option.some.injEq] at hj
      subst hj
      refine R.carry _ _ _ _ (ho 0 R rfl) (Carry.same (fun k hk => ?_))
      have hk' : own k = 0 := hk
      show (if _ then _ else _) = _
      rw [if_pos hk']; omega
    · rw [if_neg hje] at hj
      obtain ⟨j, rfl⟩ : ∃ m, j = m + 1 := ⟨j - 1, by omega⟩
      simp only [Nat.add_sub_cancel] at hj
      refine T.carry _ _ _ _ (ho (j + 1) T hj) (Carry.same (fun k hk => ?_))
      have hk' : own k = j + 1 := hk
      show (if _ then _ else _) = _
      rw [if_neg (by omega), if_neg (by omega)]; omega

/-- The first ones in another order, some dropped; the rest stays. -/
theorem Sat.perm {w : World} {As Rs : List Res} (hS : Sat w (As ++ Rs)) (l : List Nat) (Bs : List Res) (h : l.map (fun i => As[i]?) = Bs.map some) (hn : l.Nodup) : Sat w (Bs ++ Rs) := by
  have hl : ∀ i ∈ l, i < As.length := by
    intro i hi
    have : As[i]? ∈ l.map (fun i => As[i]?) := List.mem_map.2 ⟨i, hi, rfl⟩
    rw [h] at this
    obtain ⟨R, _, hR⟩ := List.mem_map.1 this
    exact (List.getElem?_eq_some_iff.1 hR.symm).1
  refine hS.pick (l ++ List.range' As.length Rs.length) (Bs ++ Rs) ?_ ?_
  · rw [List.map_append, List.map_append, ← h]
    congr 1
    · refine List.map_congr_left fun i hi => ?_
      rw [List.getElem?_append_left (hl i hi)]
    · refine List.ext_getElem? fun k => ?_
      by_cases hk : k < Rs.length
      · simp [hk]
      · simp [List.getElem?_eq_none (show Rs.length ≤ k by omega)]
        omega
  · rw [List.nodup_append]
    refine ⟨hn, List.nodup_range', fun a ha b hb => ?_⟩
    have h1 := hl a ha
    have h2 := List.mem_range'.1 hb
    omega

/-- Two first resources as one. -/
def star (A B : Res) : Res where
  P F w := ∃ G : Nat → Prop, A.P (fun k => F k ∧ G k) w ∧ B.P (fun k => F k ∧ ¬ G k) w
  carry F F' w w' := by
    rintro ⟨G, ha, hb⟩ hc
    exact ⟨G, A.carry _ _ _ _ ha ⟨hc.os, hc.tape, hc.output, hc.size, fun k hk hf => ⟨⟨(hc.block k hk hf.1).1, hf.2⟩, (hc.block k hk hf.1).2⟩⟩,
      B.carry _ _ _ _ hb ⟨hc.os, hc.tape, hc.output, hc.size, fun k hk hf => ⟨⟨(hc.block k hk hf.1).1, hf.2⟩, (hc.block k hk hf.1).2⟩⟩⟩

theorem Sat.star_in {w : World} {A B : Res} {Rs : List Res} (hS : Sat w (A :: B :: Rs)) : Sat w (star A B :: Rs) := by
  obtain ⟨own, ho⟩ := hS
  refine ⟨fun k => own k - 1, fun i T hi => ?_⟩
  match i, hi with
  | 0, hi =>
    simp only [List.getElem?_cons_zero, Option.some.injEq] at hi
    subst hi
    refine ⟨fun k => own k = 0, A.carry _ _ _ _ (ho 0 A rfl) (Carry.same (fun k hk => ?_)), B.carry _ _ _ _ (ho 1 B rfl) (Carry.same (fun k hk => ?_))⟩
    · have hk' : own k = 0 := hk
      exact ⟨by show own k - 1 = 0; omega, hk⟩
    · have hk' : own k = 1 := hk
      exact ⟨by show own k - 1 = 0; omega, by show ¬ own k = 0; omega⟩
  | i + 1, hi => exact T.carry _ _ _ _ (ho (i + 2) T hi) (Carry.same (fun k hk => by have hk' : own k = i + 2 := hk; show own k - 1 = i + 1; omega))

theorem Sat.star_out {w : World} {A B : Res} {Rs : List Res} (hS : Sat w (star A B :: Rs)) : Sat w (A :: B :: Rs) := by
  obtain ⟨own, ho⟩ := hS
  obtain ⟨G, ha, hb⟩ := ho 0 _ rfl
  refine ⟨fun k => open Classical in if own k = 0 then (if G k then 0 else 1) else own k + 1, fun i T hi => ?_⟩
  match i, hi with
  | 0, hi =>
    simp only [List.getElem?_cons_zero, Option.some.injEq] at hi
    subst hi
    exact A.carry _ _ _ _ ha (Carry.same (fun k hk => by simp [hk.1, hk.2]))
  | 1, hi =>
    simp only [List.getElem?_cons_succ, List.getElem?_cons_zero, Option.some.injEq] at hi
    subst hi
    exact B.carry _ _ _ _ hb (Carry.same (fun k hk => by simp [hk.1, hk.2]))
  | i + 2, hi => exact T.carry _ _ _ _ (ho (i + 1) T hi) (Carry.same (fun k hk => by
      show (if own k = 0 then _ else _) = _
      rw [if_neg (by omega)]; omega))

/-- Some resources as one. -/
def bag (l : List Res) : Res where
  P F w := ∃ own : Nat → Nat, ∀ (i : Nat) (R : Res), l[i]? = some R → R.P (fun k => F k ∧ own k = i) w
  carry F F' w w' := by
    rintro ⟨own, ho⟩ hc
    exact ⟨own, fun i R hi => R.carry _ _ _ _ (ho i R hi) ⟨hc.os, hc.tape, hc.output, hc.size, fun k hk hf => ⟨⟨(hc.block k hk hf.1).1, hf.2⟩, (hc.block k hk hf.1).2⟩⟩⟩

theorem Sat.bag_in {w : World} {As Rs : List Res} (hS : Sat w (As ++ Rs)) : Sat w (bag As :: Rs) := by
  obtain ⟨own, ho⟩ := hS
  refine ⟨fun k => own k + 1 - As.length, fun i T hi => ?_⟩
  match i, hi with
  | 0, hi =>
    simp only [List.getElem?_cons_zero, Option.some.injEq] at hi
    subst hi
    refine ⟨own, fun i R hR => R.carry _ _ _ _ (ho i R ?_) (Carry.same (fun k hk => ?_))⟩
    · rw [List.getElem?_append_left (List.getElem?_eq_some_iff.1 hR).1]; exact hR
    · have hk' : own k = i := hk
      have := (List.getElem?_eq_some_iff.1 hR).1
      exact ⟨by show own k + 1 - As.length = 0; omega, hk'⟩
  | i + 1, hi =>
    refine T.carry _ _ _ _ (ho (As.length + i) T ?_) (Carry.same (fun k hk => ?_))
    · rw [List.getElem?_append_right (by omega), show As.length + i - As.length = i by omega]; exact hi
    · have hk' : own k = As.length + i := hk
      show own k + 1 - As.length = i + 1
      omega

theorem Sat.bag_out {w : World} {As Rs : List Res} (hS : Sat w (bag As :: Rs)) : Sat w (As ++ Rs) := by
  obtain ⟨own, ho⟩ := hS
  obtain ⟨o2, h2⟩ := ho 0 _ rfl
  refine ⟨fun k => if own k = 0 then (if o2 k < As.length then o2 k else As.length + Rs.length) else As.length + (own k - 1), fun i T hi => ?_⟩
  by_cases h : i < As.length
  · rw [List.getElem?_append_left h] at hi
    refine T.carry _ _ _ _ (h2 i T hi) (Carry.same (fun k hk => ?_))
    obtain ⟨k1, k2⟩ := hk
    simp only [k1, k2, h, if_true]
  · rw [List.getElem?_append_right (by omega)] at hi
    refine T.carry _ _ _ _ (ho (i - As.length + 1) T hi) (Carry.same (fun k hk => ?_))
    have hk' : own k = i - As.length + 1 := hk
    show (if _ then _ else _) = _
    rw [if_neg (by omega)]; omega

/-- A fact with no memory. -/
def pur (p : Prop) : Res where
  P _ _ := p
  carry _ _ _ _ h _ := h

/-- A resource with something unknown in it. -/
def ex {α : Type} (R : α → Res) : Res where
  P F w := ∃ x, (R x).P F w
  carry F F' w w' := fun ⟨x, h⟩ hc => ⟨x, (R x).carry _ _ _ _ h hc⟩

theorem Sat.ex_in {α : Type} {w : World} {R : α → Res} {Rs : List Res} (x : α) (hS : Sat w (R x :: Rs)) : Sat w (ex R :: Rs) := by
  obtain ⟨own, ho⟩ := hS
  refine ⟨own, fun i T hi => ?_⟩
  match i, hi with
  | 0, hi =>
    simp only [List.getElem?_cons_zero, Option.some.injEq] at hi
    subst hi
    exact ⟨x, ho 0 _ rfl⟩
  | i + 1, hi => exact ho (i + 1) T hi

theorem Sat.ex_out {α : Type} {w : World} {R : α → Res} {Rs : List Res} (hS : Sat w (ex R :: Rs)) : ∃ x, Sat w (R x :: Rs) := by
  obtain ⟨own, ho⟩ := hS
  obtain ⟨x, hx⟩ := ho 0 _ rfl
  refine ⟨x, own, fun i T hi => ?_⟩
  match i, hi with
  | 0, hi =>
    simp only [List.getElem?_cons_zero, Option.some.injEq] at hi
    subst hi
    exact hx
  | i + 1, hi => exact ho (i + 1) T hi

theorem Sat.first {w : World} {R : Res} {Rs : List Res} (hS : Sat w (R :: Rs)) : ∃ F, R.P F w := by
  obtain ⟨own, ho⟩ := hS
  exact ⟨_, ho 0 R rfl⟩
theorem Sat.at_ {w : World} {Rs : List Res} (hS : Sat w Rs) (i : Nat) (R : Res) (h : Rs[i]? = some R) : ∃ F, R.P F w := by
  obtain ⟨own, ho⟩ := hS
  exact ⟨_, ho i R h⟩

/-- The same blocks, told otherwise. -/
theorem Sat.conv {w : World} {R R' : Res} {Rs : List Res} (hS : Sat w (R :: Rs)) (h : ∀ F, R.P F w → R'.P F w) : Sat w (R' :: Rs) := by
  obtain ⟨own, ho⟩ := hS
  refine ⟨own, fun i T hi => ?_⟩
  match i, hi with
  | 0, hi =>
    simp only [List.getElem?_cons_zero, Option.some.injEq] at hi
    subst hi
    exact h _ (ho 0 _ rfl)
  | i + 1, hi => exact ho (i + 1) T hi

/-- A block, whole. -/
def blk (b : Nat) (o : Obj) : Res where
  P F w := F b ∧ w.heap[b]? = some o
  carry F F' w w' := fun ⟨hf, hb⟩ hc => by
    obtain ⟨h1, h2⟩ := hc.block b (Array.getElem?_eq_some_iff.1 hb).1 hf
    exact ⟨h1, h2.trans hb⟩

theorem Sat.heap {w : World} {b : Nat} {o : Obj} {Rs : List Res} (hS : Sat w (blk b o :: Rs)) : w.heap[b]? = some o := (hS.first).choose_spec.2

/-- A resource that has a block for itself. -/
def Res.owns (R : Res) (k : Nat) : Prop := ∀ F w, R.P F w → F k
theorem blk_owns (b : Nat) (o : Obj) : (blk b o).owns b := fun _ _ h => h.1
theorem Sat.apart {w : World} {Rs : List Res} (hS : Sat w Rs) (i j : Nat) {R T : Res} (hi : Rs[i]? = some R) (hj : Rs[j]? = some T) (hij : i ≠ j) {k l : Nat} (hk : R.owns k) (hl : T.owns l) : k ≠ l := by
  obtain ⟨own, ho⟩ := hS
  have h1 : own k = i := hk _ _ (ho i R hi)
  have h2 : own l = j := hl _ _ (ho j T hj)
  rintro rfl
  omega

/-- A new block. -/
theorem Sat.alloc {w : World} {Rs : List Res} (hS : Sat w Rs) (o : Obj) : Sat (w.alloc o) (blk w.heap.size o :: Rs) := by
  obtain ⟨own, ho⟩ := hS
  refine ⟨fun k => if k < w.heap.size then own k + 1 else 0, fun i T hi => ?_⟩
  match i, hi with
  | 0, hi =>
    simp only [List.getElem?_cons_zero, Option.some.injEq] at hi
    subst hi
    exact ⟨by simp, heap_alloc_new w o⟩
  | i + 1, hi =>
    exact T.carry _ _ _ _ (ho i T hi) (Carry.mk' ((Mods.refl (fun _ => False) w).alloc o) (fun k hk hf => ⟨by show (if _ then _ else _) = _; rw [if_pos hk]; omega, id⟩))

theorem Sat.setCell {w : World} {b i : Nat} {c : Array Value} {e : TypeId} {fr : Nat × Nat} {Rs : List Res} (hS : Sat w (blk b (.cells c e fr) :: Rs)) (v : Value) :
    Sat (w.setCell ⟨b, i, none⟩ v) (blk b (.cells (c.setIfInBounds i v) e fr) :: Rs) := by
  refine hS.upd (fun F hF => ⟨(Mods.refl F w).setCell (.inl hF.1) v, fun F' h1 _ => ⟨h1 _ hF.1, ?_⟩⟩)
  simp [World.setCell, Array.getElem?_modify, hF.2]

/-- All memory that lies in the world w0, as it was there. -/
def env (w0 : World) : Res where
  P F w := w.os = w0.os ∧ w.tape = w0.tape ∧ w.output = w0.output ∧ w0.heap.size ≤ w.heap.size ∧ ∀ k, k < w0.heap.size → F k ∧ w.heap[k]? = w0.heap[k]?
  carry F F' w w' := fun ⟨h1, h2, h3, h4, h5⟩ hc => ⟨hc.os.trans h1, hc.tape.trans h2, hc.output.trans h3, Nat.le_trans h4 hc.size, fun k hk => by
    obtain ⟨a, b⟩ := hc.block k (by omega) (h5 k hk).1
    exact ⟨a, b.trans (h5 k hk).2⟩⟩

theorem Sat.start (w : World) : Sat w [env w] := ⟨fun _ => 0, fun i R hi => by
  match i, hi with
  | 0, hi =>
    simp only [List.getElem?_cons_zero, Option.some.injEq] at hi
    subst hi
    exact ⟨rfl, rfl, rfl, Nat.le_refl _, fun k _ => ⟨rfl, rfl⟩⟩
  | i + 1, hi => simp at hi⟩

theorem Sat.below {w0 w : World} {Rs : List Res} (hS : Sat w (env w0 :: Rs)) : Below w0.heap.size w0 w := by
  obtain ⟨F, h1, h2, h3, h4, h5⟩ := hS.first
  exact ⟨h1, h2, h3, h4, fun k hk => (h5 k hk).2⟩

end Go.Hal

namespace Go.Hal
set_option linter.unusedVariables false
set_option linter.unusedSimpArgs false

/-- The bits of a byte, the lowest first. -/
def byteBits (b : UInt8) : List Bool := (List.range 8).map fun k => b.toNat.testBit k
/-- The bits of bytes. -/
def bitsOf (bs : List UInt8) : List Bool := bs.flatMap byteBits
/-- The number of bits, the first the lowest. -/
def num : List Bool → Nat
  | [] => 0
  | b :: r => b.toNat + 2 * num r

@[simp] theorem byteBits_length (b : UInt8) : (byteBits b).length = 8 := by simp [byteBits]
@[simp] theorem bitsOf_length (bs : List UInt8) : (bitsOf bs).length = 8 * bs.length := by
  induction bs with
  | nil => rfl
  | cons b r ih => simp only [bitsOf, List.flatMap_cons, List.length_append, byteBits_length, List.length_cons] at *; omega
@[simp] theorem bitsOf_nil : bitsOf [] = [] := rfl
theorem bitsOf_cons (b : UInt8) (r : List UInt8) : bitsOf (b :: r) = byteBits b ++ bitsOf r := rfl
theorem bitsOf_append (a b : List UInt8) : bitsOf (a ++ b) = bitsOf a ++ bitsOf b := by simp [bitsOf]
theorem byteBits_get (b : UInt8) (k : Nat) (h : k < 8) : (byteBits b)[k]? = some (b.toNat.testBit k) := by simp [byteBits, h]

theorem bitsOf_get (bs : List UInt8) : ∀ k, k < 8 * bs.length → (bitsOf bs)[k]? = (bs[k / 8]?).map (fun b => b.toNat.testBit (k % 8)) := by
  induction bs with
  | nil => intro k h; simp at h
  | cons b r ih =>
    intro k h
    rw [bitsOf_cons]
    by_cases hk : k < 8
    · rw [List.getElem?_append_left (by simpa using hk), byteBits_get _ _ hk, Nat.div_eq_of_lt hk, Nat.mod_eq_of_lt hk]; rfl
    · simp only [List.length_cons] at h
      rw [List.getElem?_append_right (by simp; omega), byteBits_length, ih _ (by omega), show k / 8 = (k - 8) / 8 + 1 by omega, List.getElem?_cons_succ, show (k - 8) % 8 = k % 8 by omega]

theorem bitsOf_drop (bs : List UInt8) (k : Nat) : (bitsOf bs).drop (8 * k) = bitsOf (bs.drop k) := by
  induction bs generalizing k with
  | nil => simp
  | cons b r ih =>
    cases k with
    | zero => simp
    | succ k =>
      rw [bitsOf_cons, List.drop_append, List.drop_of_length_le (by simp; omega), List.nil_append, byteBits_length, show 8 * (k + 1) - 8 = 8 * k by omega, ih]; rfl

theorem bitsOf_take (bs : List UInt8) (k : Nat) : (bitsOf bs).take (8 * k) = bitsOf (bs.take k) := by
  induction bs generalizing k with
  | nil => simp
  | cons b r ih =>
    cases k with
    | zero => simp
    | succ k =>
      rw [bitsOf_cons, List.take_append, List.take_of_length_le (by simp; omega), byteBits_length, show 8 * (k + 1) - 8 = 8 * k by omega, ih, List.take_succ_cons, bitsOf_cons]

theorem num_lt (l : List Bool) : num l < 2 ^ l.length := by
  induction l with
  | nil => simp [num]
  | cons b r ih => simp only [num, List.length_cons, Nat.pow_succ]; cases b <;> simp <;> omega

theorem num_testBit (l : List Bool) : ∀ k, (num l).testBit k = (l[k]?).getD false := by
  induction l with
  | nil => intro k; simp [num]
  | cons b r ih =>
    intro k
    cases k with
    | zero => cases b <;> simp [num, Nat.testBit_zero] <;> omega
    | succ k =>
      rw [Nat.testBit_succ, List.getElem?_cons_succ, ← ih k]
      congr 1
      cases b <;> simp [num] <;> omega

theorem num_eq {n : Nat} {l : List Bool} (h : ∀ k, n.testBit k = (l[k]?).getD false) : n = num l := Nat.eq_of_testBit_eq fun k => by rw [h, num_testBit]

theorem num_byteBits (b : UInt8) : num (byteBits b) = b.toNat := by
  refine (num_eq fun k => ?_).symm
  by_cases hk : k < 8
  · rw [byteBits_get _ _ hk]; rfl
  · rw [List.getElem?_eq_none (by simp; omega)]
    exact Nat.testBit_lt_two_pow (Nat.lt_of_lt_of_le b.toNat_lt (Nat.pow_le_pow_right (n := 2) (by omega) (by omega)))

theorem num_append (a b : List Bool) : num (a ++ b) = num a + 2 ^ a.length * num b := by
  induction a with
  | nil => simp [num]
  | cons x r ih => simp only [List.cons_append, num, ih, List.length_cons, Nat.pow_succ]; rw [Nat.mul_add, ← Nat.mul_assoc 2, Nat.mul_comm 2 (2 ^ r.length)]; omega

theorem num_take_lt (l : List Bool) (n m : Nat) (h : n ≤ m) : num (l.take n) < 2 ^ m :=
  Nat.lt_of_lt_of_le (num_lt _) (Nat.pow_le_pow_right (by omega) (by simp; omega))

theorem num_take (l : List Bool) (n : Nat) : num (l.take n) = num l % 2 ^ n := by
  refine (num_eq fun k => ?_).symm
  rw [Nat.testBit_mod_two_pow, num_testBit, List.getElem?_take]
  by_cases h : k < n <;> simp [h]

theorem num_drop (l : List Bool) (n : Nat) : num (l.drop n) = num l / 2 ^ n := by
  refine (num_eq fun k => ?_).symm
  rw [Nat.testBit_div_two_pow, num_testBit, List.getElem?_drop, Nat.add_comm]

theorem num_or (a b : List Bool) : num a ||| num b * 2 ^ a.length = num (a ++ b) := by
  rw [num_append, Nat.or_comm, Nat.mul_comm (num b), ← Nat.two_pow_add_eq_or_of_lt (num_lt a) (num b), Nat.add_comm]

theorem num_inj : ∀ (a b : List Bool), a.length = b.length → num a = num b → a = b
  | [], [], _, _ => rfl
  | [], _ :: _, h, _ => by simp at h
  | _ :: _, [], h, _ => by simp at h
  | x :: a, y :: b, hl, h => by
    simp only [num] at h
    have : x = y ∧ num a = num b := by cases x <;> cases y <;> simp at * <;> omega
    rw [this.1, num_inj a b (by simpa using hl) this.2]

theorem bitsOf_inj : ∀ (a b : List UInt8), bitsOf a = bitsOf b → a = b
  | [], [], _ => rfl
  | [], y :: b, h => by have := congrArg List.length h; simp at this
  | x :: a, [], h => by have := congrArg List.length h; simp at this
  | x :: a, y :: b, h => by
    rw [bitsOf_cons, bitsOf_cons] at h
    obtain ⟨h1, h2⟩ := List.append_inj h (by simp)
    have h3 : x = y := by
      have := congrArg num h1
      rw [num_byteBits, num_byteBits] at this
      exact UInt8.toNat_inj.1 this
    rw [h3, bitsOf_inj a b h2]

end Go.Hal

namespace Go.Hal
open Go.RowKit
set_option linter.unusedVariables false
set_option linter.unusedSimpArgs false

theorem vi {k : IntKind} {a b : Int} (h : a = b) : Value.int k a = .int k b := by rw [h]
theorem wraps_i64 (n : Int) (h₀ : 0 ≤ n) (h₁ : n < 2 ^ 63) : IntKind.i64.wrap n = n := by rw [IntKind.wrap_i64]; omega
theorem wraps_u64 (n : Int) (h₀ : 0 ≤ n) (h₁ : n < 2 ^ 64) : IntKind.u64.wrap n = n := by rw [IntKind.wrap_u64]; omega
theorem wraps_u32 (n : Int) (h₀ : 0 ≤ n) (h₁ : n < 2 ^ 32) : IntKind.u32.wrap n = n := by rw [IntKind.wrap_u32']; omega
theorem and_i64 (a b : Nat) (ha : a < 2 ^ 63) (hb : b < 2 ^ 63) : bits .and .i64 (a : Int) (b : Int) = ((a &&& b : Nat) : Int) := (bits_nat .i64 63 (by decide) wraps_i64 a b ha hb).1
theorem or_i64 (a b : Nat) (ha : a < 2 ^ 63) (hb : b < 2 ^ 63) : bits .or .i64 (a : Int) (b : Int) = ((a ||| b : Nat) : Int) := (bits_nat .i64 63 (by decide) wraps_i64 a b ha hb).2
theorem and_u64 (a b : Nat) (ha : a < 2 ^ 64) (hb : b < 2 ^ 64) : bits .and .u64 (a : Int) (b : Int) = ((a &&& b : Nat) : Int) := (bits_nat .u64 64 (by decide) wraps_u64 a b ha hb).1
theorem or_u64 (a b : Nat) (ha : a < 2 ^ 64) (hb : b < 2 ^ 64) : bits .or .u64 (a : Int) (b : Int) = ((a ||| b : Nat) : Int) := (bits_nat .u64 64 (by decide) wraps_u64 a b ha hb).2
theorem xor_i64 (a b : Nat) (ha : a < 2 ^ 63) (hb : b < 2 ^ 63) : bits .xor .i64 (a : Int) (b : Int) = ((a ^^^ b : Nat) : Int) := by
  have hp : (2 : Nat) ^ 63 ≤ 2 ^ 64 := by decide
  have ha' : a % 2 ^ IntKind.i64.bits = a := Nat.mod_eq_of_lt (by show a < 2 ^ 64; omega)
  have hb' : b % 2 ^ IntKind.i64.bits = b := Nat.mod_eq_of_lt (by show b < 2 ^ 64; omega)
  simp only [bits, BitVec.ofInt_natCast, BitVec.toNat_xor, BitVec.toNat_ofNat, ha', hb']
  exact wraps_i64 _ (Int.natCast_nonneg _) (by exact_mod_cast Nat.xor_lt_two_pow ha hb)
theorem mask_i64 (i : Nat) (hi : i ≤ 63) (x : Int) (h₀ : 0 ≤ x) (h₁ : x < 2 ^ 63) : bits .and .i64 x (2 ^ i - 1) = x % 2 ^ i := bits_mask .i64 63 (by decide) wraps_i64 i hi x h₀ h₁
theorem mask_u64 (i : Nat) (hi : i ≤ 64) (x : Int) (h₀ : 0 ≤ x) (h₁ : x < 2 ^ 64) : bits .and .u64 x (2 ^ i - 1) = x % 2 ^ i := bits_mask .u64 64 (by decide) wraps_u64 i hi x h₀ h₁
theorem and7 (x : Int) (h₀ : 0 ≤ x) (h₁ : x < 2 ^ 63) : bits .and .i64 x 7 = x % 8 := mask_i64 3 (by decide) x h₀ h₁
theorem and1 (x : Int) (h₀ : 0 ≤ x) (h₁ : x < 2 ^ 63) : bits .and .i64 x 1 = x % 2 := mask_i64 1 (by decide) x h₀ h₁
theorem and1_u8 (x : Int) (h₀ : 0 ≤ x) (h₁ : x < 2 ^ 8) : bits .and .u8 x 1 = x % 2 := bits_mask .u8 8 (by decide) wraps_u8 1 (by decide) x h₀ h₁
theorem wrap64_id (x : Int) (h₀ : -9223372036854775808 ≤ x) (h₁ : x ≤ 9223372036854775807) : wrap64 x = x := by unfold wrap64; omega
theorem u64_id (x : Int) (h₀ : 0 ≤ x) (h₁ : x ≤ 18446744073709551615) : IntKind.u64.wrap x = x := by rw [IntKind.wrap_u64]; omega

/-- A bit of a number, as Go reads it. -/
theorem testBit_div (b k : Nat) : ((b.testBit k).toNat : Int) = ((b / 2 ^ k % 2 : Nat) : Int) := by
  rw [Nat.testBit_eq_decide_div_mod_eq]
  have := Nat.mod_two_eq_zero_or_one (b / 2 ^ k)
  rcases this with h | h <;> simp [h]

theorem bit_u8 (b : Nat) (hb : b < 256) (x : Int) (k : Nat) (hx : x = k) (hk : k < 2 ^ 60) :
    wrap64 (bits .and .u8 ((b : Int) / 2 ^ min (IntKind.u64.wrap (bits .and .i64 x 7)).toNat 8) 1) = ((b.testBit (k % 8)).toNat : Int) := by
  subst hx
  rw [and7 _ (by omega) (by omega), u64_id _ (by omega) (by omega)]
  have e1 : min ((k : Int) % 8).toNat 8 = k % 8 := by omega
  rw [e1, testBit_div]
  have e2 : ((b : Int) / 2 ^ (k % 8)) = ((b / 2 ^ (k % 8) : Nat) : Int) := by simp
  have h3 : b / 2 ^ (k % 8) ≤ b := Nat.div_le_self _ _
  rw [e2]
  generalize b / 2 ^ (k % 8) = q at *
  rw [and1_u8 _ (by omega) (by omega), wrap64_id _ (by omega) (by omega)]
  omega

theorem or_shl_u64 (W b k : Nat) (hW : W < 2 ^ 64) (hb : b * 2 ^ k < 2 ^ 64) : bits .or .u64 (W : Int) (IntKind.u64.wrap ((b : Int) * 2 ^ k)) = ((W ||| b * 2 ^ k : Nat) : Int) := by
  have e : (b : Int) * 2 ^ k = ((b * 2 ^ k : Nat) : Int) := by simp
  rw [e]
  generalize b * 2 ^ k = x at *
  rw [u64_id _ (by omega) (by omega), or_u64 _ _ hW hb]

theorem or_shl_i64 (W b k : Nat) (hW : W < 2 ^ 63) (hb : b * 2 ^ k < 2 ^ 63) : bits .or .i64 (W : Int) (wrap64 ((b : Int) * 2 ^ k)) = ((W ||| b * 2 ^ k : Nat) : Int) := by
  have e : (b : Int) * 2 ^ k = ((b * 2 ^ k : Nat) : Int) := by simp
  rw [e]
  generalize b * 2 ^ k = x at *
  rw [wrap64_id _ (by omega) (by omega), or_i64 _ _ hW hb]

theorem pow_u64 (n : Nat) (hn : n ≤ 63) : IntKind.u64.wrap (IntKind.u64.wrap ((2 : Int) ^ n) - 1) = ((2 ^ n - 1 : Nat) : Int) := by
  have h1 : 2 ^ n ≤ 2 ^ 63 := Nat.pow_le_pow_right (by omega) hn
  have h0 : 0 < 2 ^ n := Nat.two_pow_pos n
  have e : ((2 : Int) ^ n) = ((2 ^ n : Nat) : Int) := by simp
  rw [e]
  generalize 2 ^ n = x at *
  have e1 : IntKind.u64.wrap (x : Int) = x := u64_id _ (by omega) (by omega)
  rw [e1, u64_id _ (by omega) (by omega)]
  omega

theorem and_pow_u64 (x n : Nat) (hx : x < 2 ^ 63) (hn : n ≤ 63) : bits .and .u64 (x : Int) (IntKind.u64.wrap (IntKind.u64.wrap ((2 : Int) ^ n) - 1)) = ((x % 2 ^ n : Nat) : Int) := by
  have h1 : 2 ^ n ≤ 2 ^ 63 := Nat.pow_le_pow_right (by omega) hn
  have h0 : 0 < 2 ^ n := Nat.two_pow_pos n
  rw [pow_u64 n hn, and_u64 _ _ (by omega) (by omega), Nat.and_two_pow_sub_one_eq_mod]

theorem i64_id (x : Int) (h₀ : -9223372036854775808 ≤ x) (h₁ : x ≤ 9223372036854775807) : IntKind.i64.wrap x = x := by rw [IntKind.wrap_i64]; omega
theorem mask_var (z j : Nat) (hz : z < 2 ^ 62) (hj : j ≤ 62) : bits .and .i64 (z : Int) (IntKind.i64.wrap (IntKind.i64.wrap (2 ^ min (IntKind.u64.wrap (j : Int)).toNat 64) - 1)) = ((z % 2 ^ j : Nat) : Int) := by
  have e : min (IntKind.u64.wrap (j : Int)).toNat 64 = j := by rw [u64_id _ (by omega) (by omega)]; omega
  rw [e]
  have h1 : 2 ^ j ≤ 2 ^ 62 := Nat.pow_le_pow_right (by omega) hj
  have h0 : 0 < 2 ^ j := Nat.two_pow_pos j
  have e2 : ((2 : Int) ^ j) = ((2 ^ j : Nat) : Int) := by simp
  have e3 : IntKind.i64.wrap (IntKind.i64.wrap ((2 : Int) ^ j) - 1) = ((2 ^ j - 1 : Nat) : Int) := by
    rw [e2]
    generalize 2 ^ j = x at *
    have e4 : IntKind.i64.wrap (x : Int) = x := i64_id _ (by omega) (by omega)
    rw [e4, i64_id _ (by omega) (by omega)]
    omega
  rw [e3, and_i64 _ _ (by omega) (by omega), Nat.and_two_pow_sub_one_eq_mod]

theorem div_pow_int (x n : Nat) : (x : Int) / 2 ^ n = ((x / 2 ^ n : Nat) : Int) := by simp

end Go.Hal

namespace Go.Hal
open Go.RowKit
set_option linter.unusedVariables false
set_option linter.unusedSimpArgs false

/-- v is a slice of n elements (each of so many cells) that reads xs; its array, if it has capacity, is one of F's blocks. -/
def SlAt (F : Nat → Prop) (w : World) (e : TypeId) (size n : Nat) (v : Value) (xs : List Value) : Prop :=
  ∃ ao cap, v = .slice ao n cap ∧ n ≤ cap ∧ cap ≤ maxLen ∧ xs.length = n * size ∧
    (0 < cap → ∃ b off cur, ao = some ⟨b, off, none⟩ ∧ F b ∧ w.heap[b]? = some (.cells cur e (0, 0)) ∧ off + cap * size ≤ cur.size ∧ ∀ j u, xs[j]? = some u → cur[off + j]? = some u)

/-- .. wherever it lies. -/
def SlR (w : World) (e : TypeId) (size n : Nat) (v : Value) (xs : List Value) : Prop :=
  ∃ ao cap, v = .slice ao n cap ∧ n ≤ cap ∧ cap ≤ maxLen ∧ xs.length = n * size ∧
    (0 < n * size → ∃ b off, ao = some ⟨b, off, none⟩ ∧ b < w.heap.size ∧ ∀ j u, xs[j]? = some u → w.cell? ⟨b, off + j, none⟩ = some u)

theorem SlAt.read {F : Nat → Prop} {w : World} {e : TypeId} {size n : Nat} {v : Value} {xs : List Value} (h : SlAt F w e size n v xs) : SlR w e size n v xs := by
  obtain ⟨ao, cap, rfl, h1, h2, h3, h4⟩ := h
  refine ⟨ao, cap, rfl, h1, h2, h3, fun hn => ?_⟩
  obtain ⟨b, off, cur, r1, r2, r3, r4, r5⟩ := h4 (by have := Nat.pos_of_mul_pos_right hn; omega)
  refine ⟨b, off, r1, (Array.getElem?_eq_some_iff.1 r3).1, fun j u hu => ?_⟩
  rw [cell_of_row w b _ cur e (0, 0) r3]
  exact r5 j u hu

theorem SlR.len {w : World} {e : TypeId} {size n : Nat} {v : Value} {xs : List Value} (h : SlR w e size n v xs) : xs.length = n * size := by
  obtain ⟨ao, cap, rfl, h1, h2, h3, h4⟩ := h; exact h3

/-- What is read stays read, while its block stays. -/
theorem SlR.below {w w' : World} {B : Nat} {e : TypeId} {size n : Nat} {v : Value} {xs : List Value} (h : SlR w e size n v xs) (hb : Below w.heap.size w w') : SlR w' e size n v xs := by
  obtain ⟨ao, cap, rfl, h1, h2, h3, h4⟩ := h
  refine ⟨ao, cap, rfl, h1, h2, h3, fun hn => ?_⟩
  obtain ⟨b, off, r1, r2, r3⟩ := h4 hn
  exact ⟨b, off, r1, Nat.lt_of_lt_of_le r2 hb.size, fun j u hu => by rw [hb.cell (p := ⟨b, off + j, none⟩) r2]; exact r3 j u hu⟩

theorem SlR.nil {w : World} {e : TypeId} {size : Nat} (ao : Option Addr) (cap : Nat) (hc : cap ≤ maxLen) : SlR w e size 0 (.slice ao 0 cap) [] :=
  ⟨ao, cap, rfl, Nat.zero_le _, hc, by simp, fun h => by simp at h⟩

/-- A slice. -/
def sl (e : TypeId) (size n : Nat) (v : Value) (xs : List Value) : Res where
  P F w := SlAt F w e size n v xs
  carry F F' w w' := by
    rintro ⟨ao, cap, rfl, h1, h2, h3, h4⟩ hc
    refine ⟨ao, cap, rfl, h1, h2, h3, fun hn => ?_⟩
    obtain ⟨b, off, cur, r1, r2, r3, r4, r5⟩ := h4 hn
    obtain ⟨c1, c2⟩ := hc.block b (Array.getElem?_eq_some_iff.1 r3).1 r2
    exact ⟨b, off, cur, r1, c1, c2.trans r3, r4, r5⟩

theorem Sat.sl_read {w : World} {e : TypeId} {size n : Nat} {v : Value} {xs : List Value} {Rs : List Res} (hS : Sat w (sl e size n v xs :: Rs)) : SlR w e size n v xs := hS.first.choose_spec.read

theorem SlAt.of_owns {w : World} {F : Nat → Prop} {base : Nat} {e : TypeId} {size n : Nat} {v : Value} {xs : List Value} (h : w.ownsRow base e size v n xs) (hF : ∀ k, base ≤ k → F k) : SlAt F w e size n v xs := by
  obtain ⟨h1, ⟨rfl, rfl⟩ | ⟨g, cap, cur, rfl, hb, hg, hn, hc, hs, ht⟩⟩ := h
  · exact ⟨none, 0, rfl, Nat.le_refl _, Nat.zero_le _, h1, fun h => by simp at h⟩
  · refine ⟨_, cap, rfl, hn, hc, h1, fun _ => ⟨g, 0, cur, rfl, hF g hb, hg, by omega, fun j u hu => ?_⟩⟩
    rw [← ht, List.getElem?_take] at hu
    split at hu
    · simpa using hu
    · cases hu

/-- The empty slice without memory. -/
theorem Sat.sl_nil {w : World} {Rs : List Res} (hS : Sat w Rs) (e : TypeId) (size : Nat) (ao : Option Addr) : Sat w (sl e size 0 (.slice ao 0 0) [] :: Rs) := by
  obtain ⟨own, ho⟩ := hS
  refine ⟨fun k => own k + 1, fun i T hi => ?_⟩
  match i, hi with
  | 0, hi =>
    simp only [List.getElem?_cons_zero, Option.some.injEq] at hi
    subst hi
    exact ⟨ao, 0, rfl, Nat.le_refl _, Nat.zero_le _, by simp, fun h => by simp at h⟩
  | i + 1, hi => exact T.carry _ _ _ _ (ho i T hi) (Carry.same (fun k hk => by have hk' : own k = i := hk; show own k + 1 = i + 1; omega))

/-- A made row. -/
theorem Sat.sl_made {w : World} {Rs : List Res} {e : TypeId} {size n cap : Nat} {cur : Array Value} {xs : List Value} (hS : Sat w Rs) (hn : n ≤ cap) (hm : cap ≤ maxLen) (hl : xs.length = n * size) (hs : cap * size ≤ cur.size) (hx : ∀ (j : Nat) (u : Value), xs[j]? = some u → cur[j]? = some u) :
    Sat (w.alloc (.cells cur e)) (sl e size n (.slice (some ⟨w.heap.size, 0, none⟩) n cap) xs :: Rs) := by
  have h1 := hS.alloc (.cells cur e)
  refine h1.conv (fun F hF => ⟨_, cap, rfl, hn, hm, hl, fun _ => ⟨_, 0, cur, rfl, hF.1, hF.2, by omega, fun j u hu => by simpa using hx j u hu⟩⟩)

theorem sl_owns (e : TypeId) (size n b off cap : Nat) (xs : List Value) (hn : 0 < n) : (sl e size n (.slice (some ⟨b, off, none⟩) n cap) xs).owns b := by
  rintro F w ⟨ao, cap', heq, h1, h2, h3, h4⟩
  simp only [Value.slice.injEq, true_and] at heq
  obtain ⟨rfl, rfl⟩ := heq
  obtain ⟨b', off', cur, heq, r2, -⟩ := h4 (by omega)
  simp only [Option.some.injEq, Addr.mk.injEq, and_true] at heq
  obtain ⟨rfl, rfl⟩ := heq
  exact r2

/-- A cell of the slice's own is written. -/
theorem Sat.sl_set {w : World} {e : TypeId} {size n cap b off : Nat} {xs : List Value} {Rs : List Res} (hS : Sat w (sl e size n (.slice (some ⟨b, off, none⟩) n cap) xs :: Rs)) (j : Nat) (hj : j < xs.length) (u : Value) :
    Sat (w.setCell ⟨b, off + j, none⟩ u) (sl e size n (.slice (some ⟨b, off, none⟩) n cap) (xs.set j u) :: Rs) := by
  refine hS.upd (fun F hF => ?_)
  obtain ⟨ao, cap', heq, h1, h2, h3, h4⟩ := hF
  simp only [Value.slice.injEq, true_and] at heq
  obtain ⟨rfl, rfl⟩ := heq
  have hc : 0 < cap := by
    rcases Nat.eq_zero_or_pos cap with h0 | h0
    · subst h0; obtain rfl : n = 0 := by omega
      rw [Nat.zero_mul] at h3; omega
    · exact h0
  obtain ⟨b', off', cur, heq, r2, r3, r4, r5⟩ := h4 hc
  simp only [Option.some.injEq, Addr.mk.injEq, and_true] at heq
  obtain ⟨rfl, rfl⟩ := heq
  refine ⟨(Mods.refl F w).setCell (.inl r2) u, fun F' f1 _ => ⟨_, cap, rfl, h1, h2, by simpa using h3, fun _ => ⟨b, off, cur.setIfInBounds (off + j) u, rfl, f1 _ r2, ?_, by simpa using r4, fun i x hx => ?_⟩⟩⟩
  · simp [World.setCell, Array.getElem?_modify, r3]
  · rw [List.getElem?_set] at hx
    by_cases hij : j = i
    · subst hij
      simp only [if_true, hj] at hx
      have hl : off + j < cur.size := by
        have := Nat.mul_le_mul_right size h1
        omega
      rw [Array.getElem?_setIfInBounds_self_of_lt hl]
      exact hx
    · simp only [hij, if_false] at hx
      rw [Array.getElem?_setIfInBounds_ne (by omega)]
      exact r5 i x hx

/-- The address and the cells of a slice that is not empty. -/
theorem Sat.sl_cells {w : World} {e : TypeId} {size n : Nat} {v : Value} {xs : List Value} {Rs : List Res} (hS : Sat w (sl e size n v xs :: Rs)) (hn : 0 < n) :
    ∃ b off cap, v = .slice (some ⟨b, off, none⟩) n cap ∧ n ≤ cap ∧ cap ≤ maxLen ∧ b < w.heap.size ∧ (∀ (j : Nat) (u : Value), xs[j]? = some u → w.cell? ⟨b, off + j, none⟩ = some u) ∧ ∀ j, w.frozen? ⟨b, off + j, none⟩ = false := by
  obtain ⟨F, ao, cap, rfl, h1, h2, h3, h4⟩ := hS.first
  obtain ⟨b, off, cur, rfl, r2, r3, r4, r5⟩ := h4 (by omega)
  exact ⟨b, off, cap, rfl, h1, h2, (Array.getElem?_eq_some_iff.1 r3).1, fun j u hu => by rw [cell_of_row w b _ cur e (0, 0) r3]; exact r5 j u hu, fun j => frozen_of_row w b _ cur e r3⟩

section
variable {P : Program}

/-- WHAT append COMES TO: a slice that is the call's own, and something behind it. -/
theorem run_append_sl (w : World) (t tx ty e : TypeId) (i : TypeInfo) (z : Value) (size bytes : Nat) (h1 : P.underlying t = some (.slice e)) (h2 : P.info? e = some i) (h3 : i.zero = some z) (h4 : i.size = size) (h5 : i.bytes = bytes) (h6 : z.cells.size = size) (h7 : 0 < size)
    (v : Value) (n : Nat) (xs : List Value) (Rs : List Res) (hS : Sat w (sl e size n v xs :: Rs)) (x : Value) (m : Nat) (news : List Value) (hsrc : Src P size tx x m news w)
    (b1 : n + m ≤ maxLen) (b2 : (n + m) * bytes ≤ 140737488355328) :
    ∃ v' w', (Builtin.append_ #[t, tx] ty #[v, x]).run P w = .ok v' w' ∧ Sat w' (sl e size (n + m) v' (xs ++ news) :: Rs) := by
  subst h4
  subst h5
  have hlen : (xs ++ news).length = (n + m) * i.size := by rw [List.length_append, hsrc.newsLen, hS.sl_read.len, Nat.add_mul]
  obtain ⟨F, ao, cap, rfl, c1, c2, c3, c4⟩ := hS.first
  by_cases hr : n + m ≤ cap
  · rcases Nat.eq_zero_or_pos cap with hc0 | hc0
    · subst hc0
      obtain rfl : n = 0 := by omega
      obtain rfl : m = 0 := by omega
      obtain rfl : news = [] := List.eq_nil_of_length_eq_zero (by simpa using hsrc.newsLen)
      refine ⟨.slice ao 0 0, w, ?_, by simpa using hS⟩
      have hcells := hsrc.cells
      have hz : (storeCells · []) = fun _ => (pure () : Sem Unit) := rfl
      rcases hsrc.kind with ⟨e', hk⟩ | hk <;>
        (cases ao <;> simp [Builtin.append_, run_underlying h1, run_underlying hk, sizeOf, typeInfo, h2, hsrc.len, hcells, storeCells])
    · obtain ⟨b, off, cur, rfl, hF, hb, hcs, hx⟩ := c4 hc0
      have hmn : (n + m) * i.size ≤ cap * i.size := Nat.mul_le_mul_right _ hr
      have hnl : news.length = m * i.size := hsrc.newsLen
      rw [Nat.add_mul] at hmn
      have hcell : ∀ j, j < news.length → (w.cell? ⟨b, off + n * i.size + j, none⟩).isSome = true := fun j hj => by
        rw [cell_of_row w b _ cur e (0, 0) hb, Array.getElem?_eq_getElem (by omega)]; rfl
      refine ⟨_, _, run_append_room_src (P := P) w t tx ty e i h1 h2 b off n cap x m news hsrc hr hcell (fun j hj => frozen_of_row w b _ cur e hb), ?_⟩
      refine hS.upd (fun F0 hF0 => ?_)
      obtain ⟨ao', cap', heq, -, -, -, d4⟩ := hF0
      simp only [Value.slice.injEq, true_and] at heq
      obtain ⟨rfl, rfl⟩ := heq
      obtain ⟨b', off', cur', heq, hF0, hb', -, -⟩ := d4 hc0
      simp only [Option.some.injEq, Addr.mk.injEq, and_true] at heq
      obtain ⟨rfl, rfl⟩ := heq
      -- the block behind the stores
      have key : ∀ (vs : List Value) (o : Nat) (w : World) (cur : Array Value), w.heap[b]? = some (.cells cur e (0, 0)) → o + vs.length ≤ cur.size →
          Mods F0 w (w.setCells b o vs) ∧ ∃ cur', (w.setCells b o vs).heap[b]? = some (.cells cur' e (0, 0)) ∧ cur'.size = cur.size ∧ (∀ j, j < o ∨ o + vs.length ≤ j → cur'[j]? = cur[j]?) ∧ ∀ j, j < vs.length → cur'[o + j]? = vs[j]? := by
        intro vs
        induction vs with
        | nil => intro o w cur hb _; exact ⟨Mods.refl _ _, cur, hb, rfl, fun _ _ => rfl, fun j hj => by simp at hj⟩
        | cons u r ih =>
          intro o w cur hb ho
          simp only [List.length_cons] at ho
          have hb1 : (w.setCell ⟨b, o, none⟩ u).heap[b]? = some (.cells (cur.setIfInBounds o u) e (0, 0)) := by simp [World.setCell, Array.getElem?_modify, hb]
          obtain ⟨g1, cur2, g2, g3, g4, g5⟩ := ih (o + 1) _ _ hb1 (by simp; omega)
          refine ⟨((Mods.refl F0 w).setCell (.inl hF0) u).trans g1, cur2, g2, by simpa using g3, fun j hj => ?_, fun j hj => ?_⟩
          · rw [g4 j (by simp at hj; omega), Array.getElem?_setIfInBounds_ne (by simp at hj; omega)]
          · match j with
            | 0 => rw [g4 _ (.inl (by omega)), Nat.add_zero, Array.getElem?_setIfInBounds_self_of_lt (by omega)]; rfl
            | j + 1 => rw [show o + (j + 1) = o + 1 + j by omega, g5 j (by simpa using hj)]; simp
      obtain ⟨g1, cur2, g2, g3, g4, g5⟩ := key news (off + n * i.size) w cur hb (by omega)
      refine ⟨g1, fun F' f1 _ => ⟨_, cap, rfl, hr, c2, hlen, fun _ => ⟨b, off, cur2, rfl, f1 _ hF0, g2, by omega, fun j u hu => ?_⟩⟩⟩
      by_cases hj : j < xs.length
      · rw [List.getElem?_append_left hj] at hu
        rw [g4 _ (.inl (by omega))]
        exact hx j u hu
      · rw [List.getElem?_append_right (by omega)] at hu
        have := g5 (j - xs.length) (List.getElem?_eq_some_iff.1 hu).1
        rw [show off + n * i.size + (j - xs.length) = off + j by omega] at this
        rw [this]; exact hu
  · have hold : (Builtin.firstCells i.size n (.slice ao n cap)).run P w.drew = .ok xs.toArray w.drew := by
      rcases Nat.eq_zero_or_pos cap with hc0 | hc0
      · subst hc0
        obtain rfl : n = 0 := by omega
        obtain rfl : xs = [] := List.eq_nil_of_length_eq_zero (by simpa using c3)
        cases ao with
        | none => exact run_firstCells_none w.drew _ _ _ _
        | some a => exact run_firstCells_some w.drew i.size 0 a 0 0 [] (by simp) (fun j v h => by simp at h)
      · obtain ⟨b, off, cur, rfl, hF, hb, hcs, hx⟩ := c4 hc0
        refine run_firstCells_some w.drew i.size n _ n cap xs c3 (fun j u hu => ?_)
        rw [Addr.add_lit, World.cell?_drew, cell_of_row w b _ cur e (0, 0) hb]
        exact hx j u hu
    refine ⟨_, _, run_append_grow_src (P := P) w t tx ty e i z h1 h2 h3 ao n cap xs hold x m news hsrc (by omega) (by unfold maxLen at b1; omega) (growslice_fits (by omega) b2), ?_⟩
    have hge := grownCap_ge w (n + m) cap e
    have hcm : grownCap w (n + m) cap e ≤ maxLen := grownCap_le_maxLen w (n + m) cap e b1
    refine Sat.sl_made (w := w.drew) (hS.drew.pick (List.range' 1 Rs.length) Rs ?_ (List.nodup_range')) hge hcm hlen ?_ (fun j u hu => ?_)
    · refine List.ext_getElem? (fun k => ?_)
      by_cases hk : k < Rs.length
      · simp [List.getElem?_range', hk, Nat.add_comm 1 k]
      · simp [List.getElem?_eq_none (show Rs.length ≤ k by omega)]
        omega
    · simp only [Array.size_append, List.size_toArray, size_zeroCells, h6, hlen, ← Nat.add_mul]
      refine Nat.mul_le_mul_right _ (by omega)
    · have hlt := (List.getElem?_eq_some_iff.1 hu).1
      rw [Array.getElem?_append_left (by simpa using hlt)]
      simpa using hu

/-- append, for the walk: the call's own slice, whatever is appended; one way on. -/
theorem wpList_append_sat (w : World) {ops : Array Oper} {rest : List Oper} {o : Oper} {a : Act} {Q : Exit → Act → World → Prop}
    (hg : o.guard = none) (s x : Operand) (t tx : TypeId) (hop : o.op = Op.call { callee := Callee.builtin Builtin.append, args := #[s, x], argTypes := #[t, tx] })
    (e : TypeId) (i : TypeInfo) (z : Value) (size bytes : Nat) (h1 : P.underlying t = some (.slice e)) (h2 : P.info? e = some i) (h3 : i.zero = some z) (h4 : i.size = size) (h5 : i.bytes = bytes) (h6 : z.cells.size = size) (h7 : 0 < size)
    (n : Nat) (xs : List Value) (Rs : List Res) (v : Value) (hs : a.eval s = v) (hS : Sat w (sl e size n v xs :: Rs)) (m : Nat) (news : List Value) (vx : Value) (hx : a.eval x = vx) (hsrc : Src P size tx vx m news w)
    (b1 : n + m ≤ maxLen) (b2 : (n + m) * bytes ≤ 140737488355328)
    (hK : ∀ v' w', Sat w' (sl e size (n + m) v' (xs ++ news) :: Rs) → wpList P ops Q rest (a.put o.dst v') w') :
    wpList P ops Q (o :: rest) a w := by
  subst hs
  subst hx
  refine wpList_plain hg fun K hK' => ?_
  obtain ⟨v', w', hrun, r⟩ := run_append_sl (P := P) w t tx o.type e i z size bytes h1 h2 h3 h4 h5 h6 h7 _ n xs Rs hS _ m news hsrc b1 b2
  unfold Oper.wp
  simp [execOp, hop, resolve, invoke, builtin, hrun, Result.andThen]
  exact hK' _ _ (hK v' w' r)

/-- The operation alone. -/
theorem wp_append_sat (w : World) {o : Oper} {a : Act} {K : Act → World → Prop} {Q : Exit → Act → World → Prop}
    (s x : Operand) (t tx : TypeId) (hop : o.op = Op.call { callee := Callee.builtin Builtin.append, args := #[s, x], argTypes := #[t, tx] })
    (e : TypeId) (i : TypeInfo) (z : Value) (size bytes : Nat) (h1 : P.underlying t = some (.slice e)) (h2 : P.info? e = some i) (h3 : i.zero = some z) (h4 : i.size = size) (h5 : i.bytes = bytes) (h6 : z.cells.size = size) (h7 : 0 < size)
    (n : Nat) (xs : List Value) (Rs : List Res) (v : Value) (hs : a.eval s = v) (hS : Sat w (sl e size n v xs :: Rs)) (m : Nat) (news : List Value) (vx : Value) (hx : a.eval x = vx) (hsrc : Src P size tx vx m news w)
    (b1 : n + m ≤ maxLen) (b2 : (n + m) * bytes ≤ 140737488355328)
    (hK : ∀ v' w', Sat w' (sl e size (n + m) v' (xs ++ news) :: Rs) → K (a.put o.dst v') w') :
    o.wp P a w K Q := by
  subst hs
  subst hx
  obtain ⟨v', w', hrun, r⟩ := run_append_sl (P := P) w t tx o.type e i z size bytes h1 h2 h3 h4 h5 h6 h7 _ n xs Rs hS _ m news hsrc b1 b2
  unfold Oper.wp
  simp [execOp, hop, resolve, invoke, builtin, hrun, Result.andThen]
  exact hK v' w' r

/-- What is appended: the elements of a slice that is read. -/
theorem SlR.src {w : World} {e size n : Nat} {v : Value} {xs : List Value} (h : SlR w e size n v xs) {tx e' : TypeId} (hk : P.underlying tx = some (.slice e')) (h1 : ∀ u ∈ xs, u.oneCell' = true) : Src P size tx v n xs w := by
  obtain ⟨ao, cap, rfl, c1, c2, c3, c4⟩ := h
  rcases Nat.eq_zero_or_pos (n * size) with h0 | h0
  · obtain rfl : xs = [] := List.eq_nil_of_length_eq_zero (by omega)
    cases ao with
    | none =>
      exact ⟨.inl ⟨e', hk⟩, fun _ => rfl, run_firstCells_none w size n n cap, run_firstCells_none w.drew size n n cap, c3, fun _ h => by cases h⟩
    | some a => exact Src.ofSlice w hk a n cap [] c3 (fun j u hu => by simp at hu) (fun _ h => by cases h)
  · obtain ⟨b, off, rfl, -, hc⟩ := c4 h0
    exact Src.ofSlice w hk _ n cap xs c3 (fun j u hu => by rw [Addr.add_lit]; exact hc j u hu) h1

end

end Go.Hal
