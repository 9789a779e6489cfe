/- The document's least sum in plain words, and that it is the lengths' sum. -/
import Derived.Test.YtobkmkdnkdbgeaaLensL
namespace Go.Hal
set_option linter.unusedVariables false
set_option linter.unusedSimpArgs false

theorem insG_of {α : Type} (c : α → Int) (x : α) (l1 l2 : List α) (h2 : ∀ y ∈ l2, c x < c y) (h1 : l1 = [] ∨ ∃ l y, l1 = l ++ [y] ∧ ¬ c x < c y) : insG c x (l1 ++ l2) = l1 ++ x :: l2 := by
  have e2 : ∀ (a b : List α), (∀ y ∈ a, c x < c y) → (a ++ b).takeWhile (fun y => decide (c x < c y)) = a ++ b.takeWhile (fun y => decide (c x < c y)) ∧ (a ++ b).dropWhile (fun y => decide (c x < c y)) = b.dropWhile (fun y => decide (c x < c y)) := by
    intro a b ha
    induction a with
    | nil => exact ⟨rfl, rfl⟩
    | cons y r ih =>
      obtain ⟨i1, i2⟩ := ih (fun z hz => ha z (by simp [hz]))
      have hy := ha y (by simp)
      simp [List.takeWhile_cons, List.dropWhile_cons, hy, i1, i2]
  unfold insG
  rw [List.reverse_append]
  obtain ⟨g1, g2⟩ := e2 l2.reverse l1.reverse (fun y hy => h2 y (by simpa using hy))
  rw [g1, g2]
  rcases h1 with rfl | ⟨l, y, rfl, hy⟩
  · simp
  · simp [List.takeWhile_cons, List.dropWhile_cons, hy]

abbrev idI (x : Int) : Int := x
theorem ris_one : ∀ {a b : List Int}, Ris idI a → Ris idI b → a.Perm b → a = b
  | [], b, _, _, h => by have := h.length_eq; simp at this; exact (List.length_eq_zero_iff.1 this.symm).symm
  | x :: a, [], _, _, h => by simp at h
  | x :: a, y :: b, ha, hb, h => by
    obtain ⟨a1, a2⟩ := List.pairwise_cons.1 ha
    obtain ⟨b1, b2⟩ := List.pairwise_cons.1 hb
    have hxy : x = y := by
      have hx : x ∈ y :: b := h.mem_iff.1 (by simp)
      have hy : y ∈ x :: a := h.mem_iff.2 (by simp)
      have k1 : y ≤ x := by
        rcases List.mem_cons.1 hx with e | e
        · omega
        · exact b1 x e
      have k2 : x ≤ y := by
        rcases List.mem_cons.1 hy with e | e
        · omega
        · exact a1 y e
      omega
    subst hxy
    rw [ris_one a2 b2 (List.Perm.cons_inv h)]
theorem sortG_same {a b : List Int} (h : a.Perm b) : sortG idI a = sortG idI b :=
  ris_one (sortG_ris _ _) (sortG_ris _ _) ((sortG_perm _ _).trans (h.trans (sortG_perm _ _).symm))

def pairsI : List Int → List Int
  | a :: b :: r => (a + b) :: pairsI r
  | _ => []
def rowK (ps : List Int) : Nat → List Int
  | 0 => []
  | k + 1 => sortG idI (pairsI (rowK ps k) ++ ps)
def leastM (ps : List Int) (most : Nat) : Int := ((rowK ps most).take (2 * ps.length - 2)).sum

theorem pairsI_map : ∀ l : List Pc, (pairsM l).map Prod.fst = pairsI (l.map Prod.fst)
  | [] => rfl
  | [_] => rfl
  | a :: b :: r => by simp only [pairsM, List.map_cons, pairsI, pairsI_map r]
theorem rowK_rowM (f : List Pc) (ps : List Int) (hf : (f.map Prod.fst).Perm ps) (hs : Ris Prod.fst f) : ∀ k, rowK ps (k + 1) = (rowM f k).map Prod.fst
  | 0 => by
    show sortG idI (pairsI [] ++ ps) = f.map Prod.fst
    refine ris_one (sortG_ris _ _) ?_ ((sortG_perm _ _).trans ?_)
    · exact List.Pairwise.map Prod.fst (fun a b h => h) hs
    · exact hf.symm
  | k + 1 => by
    show sortG idI (pairsI (rowK ps (k + 1)) ++ ps) = (sortG Prod.fst (f ++ pairsM (rowM f k))).map Prod.fst
    rw [rowK_rowM f ps hf hs k, sortG_map Prod.fst Prod.fst idI (fun _ => rfl), ← pairsI_map]
    refine sortG_same ?_
    rw [List.map_append]
    exact List.perm_append_comm.trans (List.Perm.append_right _ hf.symm)

/-- The counts above nothing. -/
def posM (cs : List Int) : List Int := cs.filter fun c => decide (0 < c)
theorem firstM_fst (cs : List Int) : (firstM cs).map Prod.fst = posM cs := by
  have key : ∀ k, k ≤ cs.length → (firstM (cs.take k)).map Prod.fst = posM (cs.take k) := by
    intro k
    induction k with
    | zero => intro _; simp [firstM, posM]
    | succ k ih =>
      intro hk
      rw [firstM_succ cs k (by omega), List.map_append, ih (by omega), List.take_succ_eq_append_getElem (by omega)]
      unfold posM
      rw [List.filter_append]
      congr 1
      by_cases h0 : 0 < cs[k] <;> simp [h0]
  have := key cs.length (Nat.le_refl _)
  rwa [List.take_length] at this
theorem posM_length (cs : List Int) : (posM cs).length = (firstM cs).length := by rw [← firstM_fst, List.length_map]
theorem least_lens (cs : List Int) (most : Nat) (hm : 1 ≤ most) : leastM (posM cs) most = (((rowM (sortG Prod.fst (firstM cs)) (most - 1)).take (2 * (firstM cs).length - 2)).map Prod.fst).sum := by
  obtain ⟨m, rfl⟩ : ∃ m, most = m + 1 := ⟨most - 1, by omega⟩
  unfold leastM
  have hp : ((sortG Prod.fst (firstM cs)).map Prod.fst).Perm (posM cs) := by rw [← firstM_fst]; exact (sortG_perm _ _).map _
  rw [rowK_rowM _ _ hp (sortG_ris _ _) m, posM_length, List.map_take]
  rfl

/-- How much the rows' numbers may be. -/
theorem rowK_ok (ps : List Int) (h : ∀ c ∈ ps, 0 ≤ c ∧ c ≤ 2147483648) : ∀ k, ∀ c ∈ rowK ps k, 0 ≤ c ∧ c ≤ 2147483648 * 2 ^ k
  | 0 => by simp [rowK]
  | k + 1 => by
    intro c hc
    rw [rowK, mem_sortG, List.mem_append] at hc
    have ih := rowK_ok ps h k
    have h1 : (1 : Int) ≤ 2 ^ k := by exact_mod_cast Nat.one_le_two_pow
    rw [Int.pow_succ]
    rcases hc with hc | hc
    · have : ∀ l : List Int, (∀ c ∈ l, 0 ≤ c ∧ c ≤ 2147483648 * 2 ^ k) → ∀ c ∈ pairsI l, 0 ≤ c ∧ c ≤ 2147483648 * (2 ^ k * 2) := by
        intro l
        induction l using pairsI.induct with
        | case1 a b r ih2 =>
          intro hl c hc
          simp only [pairsI, List.mem_cons] at hc
          rcases hc with rfl | hc
          · have := hl a (by simp); have := hl b (by simp); omega
          · exact ih2 (fun x hx => hl x (by simp [hx])) c hc
        | case2 l h => intro hl c hc; rw [pairsI] at hc; · cases hc
                       · exact h
      exact this _ ih c hc
    · have := h c hc
      omega
theorem pairsI_length : ∀ l : List Int, (pairsI l).length = l.length / 2
  | [] => rfl
  | [_] => by simp [pairsI]
  | a :: b :: r => by simp only [pairsI, List.length_cons, pairsI_length r]; omega
theorem rowK_length (ps : List Int) : ∀ k, (rowK ps k).length ≤ 2 * ps.length
  | 0 => by simp [rowK]
  | k + 1 => by have := rowK_length ps k; simp only [rowK, sortG_length, List.length_append, pairsI_length]; omega
theorem pairsI_append : ∀ (a b : List Int), a.length % 2 = 0 → pairsI (a ++ b) = pairsI a ++ pairsI b
  | [], b, _ => by simp [pairsI]
  | [_], b, h => by simp at h
  | x :: y :: r, b, h => by
    simp only [List.cons_append, pairsI]
    rw [pairsI_append r b (by simp only [List.length_cons] at h; omega)]
theorem pairsI_take (l : List Int) (j : Nat) (h : 2 * j + 1 < l.length) : pairsI (l.take (2 * (j + 1))) = pairsI (l.take (2 * j)) ++ [l[2 * j] + l[2 * j + 1]] := by
  rw [show 2 * (j + 1) = 2 * j + 1 + 1 by omega, List.take_succ_eq_append_getElem h, List.take_succ_eq_append_getElem (by omega : 2 * j < l.length), List.append_assoc, pairsI_append _ _ (by simp; omega)]
  rfl
theorem pairsI_end (l : List Int) (j : Nat) (h : l.length ≤ 2 * j + 1) (h2 : 2 * j ≤ l.length) : pairsI (l.take (2 * j)) = pairsI l := by
  have e : l = l.take (2 * j) ++ l.drop (2 * j) := (List.take_append_drop _ _).symm
  conv => rhs; rw [e]
  rw [pairsI_append _ _ (by rw [List.length_take]; omega)]
  have : pairsI (l.drop (2 * j)) = [] := by
    have hl : (l.drop (2 * j)).length ≤ 1 := by rw [List.length_drop]; omega
    match l.drop (2 * j), hl with
    | [], _ => rfl
    | [_], _ => rfl
  rw [this, List.append_nil]
end Go.Hal
