/- Stable sorting in plain words: rows of sorted parts. -/
import Derived.Test.YtobkmkdnkdbgeaaSymM
namespace Go.Hal
set_option linter.unusedVariables false

section
variable {α : Type} {key : α → Int}
/-- Parts of s elements, but for the last one, which may be smaller. -/
def Szd (s : Nat) : List (List (α × Nat)) → Prop
  | [] => True
  | C :: E => (E = [] ∧ 0 < C.length ∧ C.length ≤ s) ∨ (E ≠ [] ∧ C.length = s ∧ Szd s E)
theorem szd_app {s : Nat} (hs : 0 < s) {T : List (List (α × Nat))} (hT : Szd s T) : ∀ D : List (List (α × Nat)), (∀ X ∈ D, X.length = s) → Szd s (D ++ T)
  | [], _ => hT
  | X :: D, h => by
    have hX := h X (List.mem_cons_self ..)
    have hD := szd_app hs hT D (fun Y hY => h Y (List.mem_cons_of_mem _ hY))
    rw [List.cons_append]
    by_cases he : D ++ T = []
    · exact .inl ⟨he, by omega, by omega⟩
    · exact .inr ⟨he, hX, hD⟩
theorem szd_two {s : Nat} (hs : 0 < s) {E : List (List (α × Nat))} (hE : Szd s E) (hl : 2 * s ≤ E.flatten.length) : ∃ C1 C2 E', E = C1 :: C2 :: E' ∧ C1.length = s ∧ C2.length = s ∧ Szd s E' := by
  match E, hE with
  | [], _ => simp at hl; omega
  | [C], h =>
    rcases h with ⟨-, h1, h2⟩ | ⟨h, -⟩
    · simp at hl; omega
    · exact absurd rfl h
  | C1 :: C2 :: E', h =>
    rcases h with ⟨h, -⟩ | ⟨-, h1, h2⟩
    · cases h
    · rcases h2 with ⟨h3, h4, h5⟩ | ⟨h3, h4, h5⟩
      · subst h3
        simp at hl
        exact ⟨C1, C2, [], rfl, h1, by omega, trivial⟩
      · exact ⟨C1, C2, E', rfl, h1, h4, h5⟩
theorem szd_small {s : Nat} {E : List (List (α × Nat))} (hE : Szd s E) (hl : E.flatten.length < 2 * s) : E = [] ∨ (∃ C, E = [C] ∧ 0 < C.length ∧ C.length ≤ s) ∨ (∃ C1 C2, E = [C1, C2] ∧ C1.length = s ∧ 0 < C2.length ∧ C2.length ≤ s) := by
  match E, hE with
  | [], _ => exact .inl rfl
  | [C], h =>
    rcases h with ⟨-, h1, h2⟩ | ⟨h, -⟩
    · exact .inr (.inl ⟨C, rfl, h1, h2⟩)
    · exact absurd rfl h
  | [C1, C2], h =>
    rcases h with ⟨h, -⟩ | ⟨-, h1, h2⟩
    · cases h
    · rcases h2 with ⟨h3, h4, h5⟩ | ⟨h3, h4, h5⟩
      · exact .inr (.inr ⟨C1, C2, rfl, h1, h4, h5⟩)
      · exact absurd rfl h3
  | C1 :: C2 :: C3 :: E', h =>
    rcases h with ⟨h, -⟩ | ⟨-, h1, h2⟩
    · cases h
    · rcases h2 with ⟨h3, -⟩ | ⟨h3, h4, h5⟩
      · cases h3
      · simp at hl; omega
variable (key) in
/-- Sorted parts of s elements each, which stand in the order of their places; all of a row. -/
structure Parts (q0 : List (α × Nat)) (T : List (List (α × Nat))) : Prop where
  perm : T.flatten.Perm q0
  ahead : T.Pairwise Ahead
  sorted : ∀ C ∈ T, C.Pairwise (PLt key)
theorem parts_end {q0 : List (α × Nat)} {T : List (List (α × Nat))} (h : Parts key q0 T) {s : Nat} (hs : Szd s T) (hl : T.flatten.length ≤ s) : SortOf key q0 T.flatten := by
  refine ⟨?_, h.perm⟩
  match T, hs with
  | [], _ => exact List.Pairwise.nil
  | [C], _ => simpa using h.sorted C (by simp)
  | C1 :: C2 :: E, hs =>
    rcases hs with ⟨hs, -⟩ | ⟨-, h1, h2⟩
    · cases hs
    · rcases h2 with ⟨-, h3, -⟩ | ⟨-, h3, -⟩
      · simp at hl; omega
      · have hz : C2.length = 0 := by simp at hl; omega
        have : s = 0 := by omega
        have h4 : C1.length = 0 := by omega
        have h5 : (C1 :: C2 :: E).flatten.length = 0 := by omega
        rw [List.length_eq_zero_iff] at h5
        rw [h5]; exact List.Pairwise.nil
/-- Two parts side by side become one. -/
theorem parts_merge {q0 : List (α × Nat)} {D E : List (List (α × Nat))} {C1 C2 R : List (α × Nat)} (h : Parts key q0 (D ++ C1 :: C2 :: E)) (hR : SortOf key (C1 ++ C2) R) : Parts key q0 (D ++ R :: E) := by
  have hm : ∀ x, x ∈ R → x ∈ C1 ∨ x ∈ C2 := fun x hx => List.mem_append.1 ((hR.mem x).1 hx)
  refine ⟨?_, ?_, ?_⟩
  · refine List.Perm.trans ?_ h.perm
    simp only [List.flatten_append, List.flatten_cons]
    refine List.Perm.append_left _ ?_
    rw [← List.append_assoc]
    exact List.Perm.append_right _ hR.2
  · obtain ⟨h1, h2, h3⟩ := List.pairwise_append.1 h.ahead
    obtain ⟨h4, h5⟩ := List.pairwise_cons.1 h2
    obtain ⟨h6, h7⟩ := List.pairwise_cons.1 h5
    refine List.pairwise_append.2 ⟨h1, List.pairwise_cons.2 ⟨fun X hX x hx y hy => ?_, h7⟩, fun X hX Y hY x hx y hy => ?_⟩
    · rcases hm x hx with hx | hx
      · exact h4 X (List.mem_cons_of_mem _ hX) x hx y hy
      · exact h6 X hX x hx y hy
    · rcases List.mem_cons.1 hY with rfl | hY
      · rcases hm y hy with hy | hy
        · exact h3 X hX C1 (by simp) x hx y hy
        · exact h3 X hX C2 (by simp) x hx y hy
      · exact h3 X hX Y (by simp [hY]) x hx y hy
  · intro C hC
    rcases List.mem_append.1 hC with hC | hC
    · exact h.sorted C (by simp [hC])
    · rcases List.mem_cons.1 hC with rfl | hC
      · exact hR.1
      · exact h.sorted C (by simp [hC])
theorem parts_ahead {q0 : List (α × Nat)} {D E : List (List (α × Nat))} {C1 C2 : List (α × Nat)} (h : Parts key q0 (D ++ C1 :: C2 :: E)) : Ahead C1 C2 ∧ C1.Pairwise (PLt key) ∧ C2.Pairwise (PLt key) := by
  obtain ⟨-, h2, -⟩ := List.pairwise_append.1 h.ahead
  obtain ⟨h4, -⟩ := List.pairwise_cons.1 h2
  exact ⟨h4 C2 (by simp), h.sorted C1 (by simp), h.sorted C2 (by simp)⟩
/-- A part at the row's end is sorted: the parts ahead of it are, what stands behind it is not yet. -/
theorem parts_next {q0 : List (α × Nat)} {D : List (List (α × Nat))} {rest R : List (α × Nat)} (k : Nat) (hp : (D.flatten ++ rest).Perm q0) (ha : (D ++ [rest]).Pairwise Ahead) (hi : rest.Pairwise (fun x y => x.2 < y.2)) (hR : SortOf key (rest.take k) R) :
    ((D ++ [R]).flatten ++ rest.drop k).Perm q0 ∧ ((D ++ [R]) ++ [rest.drop k]).Pairwise Ahead ∧ (rest.drop k).Pairwise (fun x y => x.2 < y.2) := by
  refine ⟨?_, ?_, hi.sublist (List.drop_sublist _ _)⟩
  · refine List.Perm.trans ?_ hp
    simp only [List.flatten_append, List.flatten_cons, List.flatten_nil, List.append_nil, List.append_assoc]
    refine List.Perm.append_left _ ?_
    have := List.Perm.append_right (rest.drop k) hR.2
    rwa [List.take_append_drop] at this
  · obtain ⟨h1, -, h3⟩ := List.pairwise_append.1 ha
    have hm : ∀ x, x ∈ R → x ∈ rest := fun x hx => List.mem_of_mem_take ((hR.mem x).1 hx)
    refine List.pairwise_append.2 ⟨List.pairwise_append.2 ⟨h1, List.pairwise_singleton .., fun X hX Y hY => ?_⟩, List.pairwise_singleton .., fun X hX Y hY => ?_⟩
    · rw [List.mem_singleton] at hY; subst hY
      exact parts_next.left' (h3 X hX rest (by simp)) hm
    · rw [List.mem_singleton] at hY; subst hY
      rcases List.mem_append.1 hX with hX | hX
      · exact parts_next.left' (h3 X hX rest (by simp)) (fun x hx => List.mem_of_mem_drop hx)
      · rw [List.mem_singleton] at hX; subst hX
        intro x hx y hy
        have hx := (hR.mem x).1 hx
        rw [← List.take_append_drop k rest] at hi
        exact (List.pairwise_append.1 hi).2.2 x hx y hy
where
  left' {A B B2 : List (α × Nat)} (h : Ahead A B) (h2 : ∀ x ∈ B2, x ∈ B) : Ahead A B2 := fun x hx y hy => h x hx y (h2 y hy)
end
end Go.Hal
