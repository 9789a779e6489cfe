/- Stable sorting in plain words: rows with places, merged. -/
namespace Go.Hal
set_option linter.unusedVariables false

section
variable {α : Type} (key : α → Int)
/-- An element with its place: it stands ahead of another one if it costs less, or as much with an earlier place. -/
def PLt (x y : α × Nat) : Prop := key x.1 < key y.1 ∨ (key x.1 = key y.1 ∧ x.2 < y.2)
theorem PLt.trans {key : α → Int} {x y z : α × Nat} (h : PLt key x y) (k : PLt key y z) : PLt key x z := by
  unfold PLt at *; omega
theorem PLt.asymm {key : α → Int} {x y : α × Nat} (h : PLt key x y) (k : PLt key y x) : False := by
  unfold PLt at *; omega
/-- A sorted row of what a row holds. -/
def SortOf (l r : List (α × Nat)) : Prop := r.Pairwise (PLt key) ∧ r.Perm l
variable {key}
theorem SortOf.length {l r : List (α × Nat)} (h : SortOf key l r) : r.length = l.length := h.2.length_eq
theorem SortOf.mem {l r : List (α × Nat)} (h : SortOf key l r) (x : α × Nat) : x ∈ r ↔ x ∈ l := h.2.mem_iff
theorem SortOf.refl {l : List (α × Nat)} (h : l.Pairwise (PLt key)) : SortOf key l l := ⟨h, .refl _⟩

theorem sorted_one : ∀ {l r : List (α × Nat)}, l.Pairwise (PLt key) → r.Pairwise (PLt key) → l.Perm r → l = r
  | [], r, _, _, hp => (List.Perm.nil_eq hp)
  | x :: l, [], _, _, hp => by simp at hp
  | x :: l, y :: r, hl, hr, hp => by
    obtain ⟨h1, h2⟩ := List.pairwise_cons.1 hl
    obtain ⟨h3, h4⟩ := List.pairwise_cons.1 hr
    have hxy : x = y := by
      have hx : x ∈ y :: r := hp.mem_iff.1 (List.mem_cons_self ..)
      have hy : y ∈ x :: l := hp.mem_iff.2 (List.mem_cons_self ..)
      rcases List.mem_cons.1 hx with e | hx
      · exact e
      · rcases List.mem_cons.1 hy with e | hy
        · exact e.symm
        · exact ((h1 y hy).asymm (h3 x hx)).elim
    subst hxy
    rw [sorted_one h2 h4 (List.Perm.cons_inv hp)]
theorem SortOf.one {l r s : List (α × Nat)} (h : SortOf key l r) (k : SortOf key l s) : r = s := sorted_one h.1 k.1 (h.2.trans k.2.symm)
theorem SortOf.trans {l m r : List (α × Nat)} (h : m.Perm l) (k : SortOf key m r) : SortOf key l r := ⟨k.1, k.2.trans h⟩

/-- All of the one row stand ahead of all of the other. -/
def Ahead (a b : List (α × Nat)) : Prop := ∀ x ∈ a, ∀ y ∈ b, x.2 < y.2
theorem SortOf.append {a b r s : List (α × Nat)} (h : SortOf key a r) (k : SortOf key b s) (hl : ∀ x ∈ a, ∀ y ∈ b, PLt key x y) : SortOf key (a ++ b) (r ++ s) :=
  ⟨List.pairwise_append.2 ⟨h.1, k.1, fun x hx y hy => hl x ((h.mem x).1 hx) y ((k.mem y).1 hy)⟩, h.2.append k.2⟩

/-- One element ahead of a row: it goes behind all that cost less. -/
theorem merge_left (x : α × Nat) (B : List (α × Nat)) (hB : B.Pairwise (PLt key)) (ha : Ahead [x] B) (i : Nat)
    (h1 : ∀ k y, k < i → B[k]? = some y → key y.1 < key x.1) (h2 : ∀ k y, i ≤ k → B[k]? = some y → ¬ key y.1 < key x.1) :
    SortOf key ([x] ++ B) (B.take i ++ x :: B.drop i) := by
  refine ⟨?_, ?_⟩
  · rw [List.pairwise_append]
    refine ⟨hB.sublist (List.take_sublist _ _), ?_, ?_⟩
    · rw [List.pairwise_cons]
      refine ⟨fun y hy => ?_, hB.sublist (List.drop_sublist _ _)⟩
      obtain ⟨k, hk⟩ := List.mem_iff_getElem?.1 hy
      rw [List.getElem?_drop] at hk
      have := h2 (i + k) y (by omega) hk
      have h3 := ha x (by simp) y (List.mem_of_getElem? hk)
      unfold PLt; omega
    · intro y hy z hz
      obtain ⟨k, hk⟩ := List.mem_iff_getElem?.1 hy
      rw [List.getElem?_take] at hk
      split at hk
      · rename_i hki
        have h3 := h1 k y hki hk
        rcases List.mem_cons.1 hz with rfl | hz
        · exact .inl h3
        · obtain ⟨j, hj⟩ := List.mem_iff_getElem?.1 hz
          rw [List.getElem?_drop] at hj
          have h4 := h2 (i + j) z (by omega) hj
          exact .inl (by omega)
      · cases hk
  · have h := List.perm_middle (a := x) (l₁ := B.take i) (l₂ := B.drop i)
    rw [List.take_append_drop] at h
    simpa using h

/-- One element behind a row: it goes ahead of all that cost more. -/
theorem merge_right (x : α × Nat) (A : List (α × Nat)) (hA : A.Pairwise (PLt key)) (ha : Ahead A [x]) (i : Nat)
    (h1 : ∀ k y, k < i → A[k]? = some y → ¬ key x.1 < key y.1) (h2 : ∀ k y, i ≤ k → A[k]? = some y → key x.1 < key y.1) :
    SortOf key (A ++ [x]) (A.take i ++ x :: A.drop i) := by
  refine ⟨?_, ?_⟩
  · rw [List.pairwise_append]
    refine ⟨hA.sublist (List.take_sublist _ _), ?_, ?_⟩
    · rw [List.pairwise_cons]
      refine ⟨fun y hy => ?_, hA.sublist (List.drop_sublist _ _)⟩
      obtain ⟨k, hk⟩ := List.mem_iff_getElem?.1 hy
      rw [List.getElem?_drop] at hk
      exact .inl (h2 (i + k) y (by omega) hk)
    · intro y hy z hz
      obtain ⟨k, hk⟩ := List.mem_iff_getElem?.1 hy
      rw [List.getElem?_take] at hk
      split at hk
      · rename_i hki
        have h3 := h1 k y hki hk
        rcases List.mem_cons.1 hz with rfl | hz
        · have h5 := ha y (List.mem_of_getElem? hk) z (by simp)
          unfold PLt; omega
        · obtain ⟨j, hj⟩ := List.mem_iff_getElem?.1 hz
          rw [List.getElem?_drop] at hj
          have h4 := h2 (i + j) z (by omega) hj
          exact .inl (by omega)
      · cases hk
  · have h := List.perm_middle (a := x) (l₁ := A.take i) (l₂ := A.drop i)
    rw [List.take_append_drop] at h
    refine h.trans ?_
    have h2 := List.perm_append_comm (l₁ := A) (l₂ := [x])
    exact h2.symm

/-- Two rows, parted at s and at h - s: what stands ahead costs no more than what stands behind. -/
theorem merge_parts (A B : List (α × Nat)) (hA : A.Pairwise (PLt key)) (hB : B.Pairwise (PLt key)) (ha : Ahead A B) (s u : Nat) (hs0 : s ≤ A.length) (hu0 : u ≤ B.length)
    (h1 : ∀ x y, 0 < s → A[s - 1]? = some x → B[u]? = some y → ¬ key y.1 < key x.1)
    (h2 : ∀ x y, 0 < u → A[s]? = some x → B[u - 1]? = some y → key y.1 < key x.1) {r1 r2 : List (α × Nat)}
    (hr1 : SortOf key (A.take s ++ B.take u) r1) (hr2 : SortOf key (A.drop s ++ B.drop u) r2) : SortOf key (A ++ B) (r1 ++ r2) := by
  have mono : ∀ {l : List (α × Nat)} (_ : l.Pairwise (PLt key)) {i j : Nat} {x y}, i ≤ j → l[i]? = some x → l[j]? = some y → key x.1 ≤ key y.1 := by
    intro l hl i j x y hij hx hy
    rcases Nat.lt_or_ge i j with h | h
    · have hj := (List.getElem?_eq_some_iff.1 hy)
      have hi := (List.getElem?_eq_some_iff.1 hx)
      have := List.pairwise_iff_getElem.1 hl i j hi.1 hj.1 h
      rw [hi.2, hj.2] at this
      unfold PLt at this; omega
    · obtain rfl : i = j := by omega
      rw [hx] at hy; cases hy; omega
  have key1 : ∀ x ∈ A.take s ++ B.take u, ∀ y ∈ A.drop s ++ B.drop u, PLt key x y := by
    intro x hx y hy
    rcases List.mem_append.1 hx with hx | hx
    · obtain ⟨i, hi⟩ := List.mem_iff_getElem?.1 hx
      rw [List.getElem?_take] at hi
      split at hi
      case isFalse => cases hi
      rename_i his
      rcases List.mem_append.1 hy with hy | hy
      · obtain ⟨j, hj⟩ := List.mem_iff_getElem?.1 hy
        rw [List.getElem?_drop] at hj
        have hj' := (List.getElem?_eq_some_iff.1 hj)
        have hi' := (List.getElem?_eq_some_iff.1 hi)
        have := List.pairwise_iff_getElem.1 hA i (s + j) hi'.1 hj'.1 (by omega)
        rw [hi'.2, hj'.2] at this
        exact this
      · obtain ⟨j, hj⟩ := List.mem_iff_getElem?.1 hy
        rw [List.getElem?_drop] at hj
        have hu : u < B.length := by have := (List.getElem?_eq_some_iff.1 hj).1; omega
        have hlast : ∃ t z, i ≤ t ∧ A[t]? = some z ∧ ¬ key (B[u]).1 < key z.1 :=
          ⟨s - 1, A[s - 1], by omega, List.getElem?_eq_getElem (by omega), h1 _ _ (by omega) (List.getElem?_eq_getElem (by omega)) (List.getElem?_eq_getElem hu)⟩
        obtain ⟨t, z, hit, hz, hlt⟩ := hlast
        have h3 := mono hA hit hi hz
        have h4 := mono hB (show u ≤ u + j by omega) (List.getElem?_eq_getElem hu) hj
        have h5 := ha x (List.mem_of_getElem? hi) y (List.mem_of_getElem? hj)
        unfold PLt; omega
    · obtain ⟨i, hi⟩ := List.mem_iff_getElem?.1 hx
      rw [List.getElem?_take] at hi
      split at hi
      case isFalse => cases hi
      rename_i hiu
      rcases List.mem_append.1 hy with hy | hy
      · obtain ⟨j, hj⟩ := List.mem_iff_getElem?.1 hy
        rw [List.getElem?_drop] at hj
        have hs : s < A.length := by have := (List.getElem?_eq_some_iff.1 hj).1; omega
        have hib := (List.getElem?_eq_some_iff.1 hi).1
        have hub : u - 1 < B.length := by omega
        have h3 := h2 _ _ (by omega) (List.getElem?_eq_getElem hs) (List.getElem?_eq_getElem hub)
        have h4 := mono hB (show i ≤ u - 1 by omega) hi (List.getElem?_eq_getElem hub)
        have h5 := mono hA (show s ≤ s + j by omega) (List.getElem?_eq_getElem hs) hj
        exact .inl (by omega)
      · obtain ⟨j, hj⟩ := List.mem_iff_getElem?.1 hy
        rw [List.getElem?_drop] at hj
        have hj' := (List.getElem?_eq_some_iff.1 hj)
        have hi' := (List.getElem?_eq_some_iff.1 hi)
        have := List.pairwise_iff_getElem.1 hB i (u + j) hi'.1 hj'.1 (by omega)
        rw [hi'.2, hj'.2] at this
        exact this
  refine (hr1.append hr2 key1).trans ?_
  have e1 := List.perm_append_comm (l₁ := B.take u) (l₂ := A.drop s)
  have e2 : ((A.take s ++ B.take u) ++ (A.drop s ++ B.drop u)).Perm ((A.take s ++ A.drop s) ++ (B.take u ++ B.drop u)) := by
    simp only [List.append_assoc]
    refine List.Perm.append_left _ ?_
    rw [← List.append_assoc, ← List.append_assoc]
    exact List.Perm.append_right _ e1
  rwa [List.take_append_drop, List.take_append_drop] at e2
end
end Go.Hal
