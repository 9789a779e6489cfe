/- New refuses just what the reference refuses. -/
import Derived.Test.YtobkmkdnkdbgeaaWords
namespace Go.Proofs.Ytobkmkdnkdbgeaa
open Go.RowKit Go.Hal
set_option linter.unusedVariables false
set_option linter.unusedSimpArgs false

theorem rank_take (L : List Nat) (n s : Nat) (hs : s ≤ L.length) : rank L n s = (L.take s).count n := by
  induction s with
  | zero => simp [rank, symsOf]
  | succ s ih =>
    rw [rank_succ, ih (by omega), List.take_succ_eq_append_getElem (by omega), List.count_append, List.count_singleton, List.getElem?_eq_getElem (by omega)]
    congr 1
    by_cases h : L[s] = n <;> simp [h]
theorem rank_all (L : List Nat) (n : Nat) : rank L n L.length = L.count n := by rw [rank_take L n L.length (Nat.le_refl _), List.take_length]
def rmK (K : Nat) (L : List Nat) : Nat := (L.map fun n => if 1 ≤ n ∧ n ≤ K then 2 ^ (K - n) else 0).sum
theorem rmK_succ (K : Nat) (L : List Nat) : rmK (K + 1) L = 2 * rmK K L + L.count (K + 1) := by
  induction L with
  | nil => simp [rmK]
  | cons n r ih =>
    simp only [rmK, List.map_cons, List.sum_cons, List.count_cons] at *
    rw [ih]
    by_cases h1 : 1 ≤ n ∧ n ≤ K
    · rw [if_pos h1, if_pos (by omega), show K + 1 - n = K - n + 1 by omega, Nat.pow_succ]
      have : ¬ (n == K + 1) = true := by simp; omega
      rw [if_neg this]; omega
    · rw [if_neg h1]
      by_cases h2 : n = K + 1
      · subst h2; simp; omega
      · rw [if_neg (by omega)]
        have : ¬ (n == K + 1) = true := by simpa using h2
        rw [if_neg this]; omega
theorem ends_rm (L : List Nat) (K : Nat) : ends L K = rmK K L := by
  induction K with
  | zero =>
    simp only [ends, rmK]
    induction L with
    | nil => rfl
    | cons n r ih => simp only [List.map_cons, List.sum_cons, ← ih]; rw [if_neg (by omega)]
  | succ K ih => simp only [ends]; rw [rmK_succ, ih, rank_all]
theorem rm_rmK (L : List Nat) (hx : ∀ x ∈ L, x ≤ 15) : rmK 15 L = rm L := by
  induction L with
  | nil => rfl
  | cons n r ih =>
    have h1 := hx n (by simp)
    simp only [rmK, rm, List.map_cons, List.sum_cons] at *
    rw [ih (fun x h => hx x (by simp [h]))]
    congr 1
    by_cases h : 0 < n
    · rw [if_pos h, if_pos ⟨h, h1⟩]
    · rw [if_neg h, if_neg (by omega)]
theorem ord_length (L : List Nat) (K : Nat) : (ord L K).length = (L.filter (fun n => decide (1 ≤ n ∧ n ≤ K))).length := by
  induction K with
  | zero =>
    simp only [ord, List.length_nil]
    symm
    rw [List.length_eq_zero_iff, List.filter_eq_nil_iff]
    intro a _; simp; omega
  | succ K ih =>
    simp only [ord, List.length_append]
    rw [ih, show (symsOf L (K + 1) L.length).length = rank L (K + 1) L.length from rfl, rank_all]
    clear ih
    induction L with
    | nil => rfl
    | cons n r ih =>
      rw [List.filter_cons, List.filter_cons, List.count_cons]
      by_cases h1 : 1 ≤ n ∧ n ≤ K
      · have h2 : 1 ≤ n ∧ n ≤ K + 1 := by omega
        have h3 : ¬ (n == K + 1) = true := by simp; omega
        rw [if_pos (decide_eq_true h1), if_pos (decide_eq_true h2), if_neg h3, List.length_cons, List.length_cons]
        omega
      · by_cases h4 : n = K + 1
        · have h2 : 1 ≤ n ∧ n ≤ K + 1 := by omega
          have h3 : (n == K + 1) = true := by simpa using h4
          have g1 : ¬ decide (1 ≤ n ∧ n ≤ K) = true := by rw [decide_eq_true_eq]; exact h1
          rw [if_neg g1, if_pos (decide_eq_true h2), if_pos h3, List.length_cons]
          omega
        · have h2 : ¬ (1 ≤ n ∧ n ≤ K + 1) := by omega
          have h3 : ¬ (n == K + 1) = true := by simpa using h4
          have g1 : ¬ decide (1 ≤ n ∧ n ≤ K) = true := by rw [decide_eq_true_eq]; exact h1
          have g2 : ¬ decide (1 ≤ n ∧ n ≤ K + 1) = true := by rw [decide_eq_true_eq]; exact h2
          rw [if_neg g1, if_neg g2, if_neg h3]
          omega
theorem ord_ws (L : List Nat) (hx : ∀ x ∈ L, x ≤ 15) : (ord L 15).length = ws L := by
  rw [ord_length]
  unfold ws
  congr 1
  refine List.filter_congr fun n hn => ?_
  have := hx n hn
  by_cases h : 0 < n <;> simp [h] <;> omega

theorem fits_of_room {L : List Nat} (hx : ∀ x ∈ L, x ≤ 15) (h : rm L ≤ 32768) : Fits L := by
  refine ⟨hx, fun m hm => ?_⟩
  have h1 := ends_grow L m (15 - m)
  rw [show m + (15 - m) = 15 by omega, ends_rm L 15, rm_rmK L hx] at h1
  have h2 : ends L m * 2 ^ (15 - m) ≤ 2 ^ m * 2 ^ (15 - m) := by
    rw [← Nat.pow_add, show m + (15 - m) = 15 by omega]; omega
  exact Nat.le_of_mul_le_mul_right h2 (Nat.two_pow_pos _)
theorem rm_few (L : List Nat) : rm L ≤ ws L * 16384 := by
  induction L with
  | nil => simp [rm]
  | cons n r ih =>
    simp only [rm, ws, List.map_cons, List.sum_cons, List.filter_cons] at *
    by_cases h : 0 < n
    · have : 2 ^ (15 - n) ≤ 16384 := Nat.le_trans (Nat.pow_le_pow_right (by omega) (show 15 - n ≤ 14 by omega)) (by decide)
      simp only [h, decide_true, if_true, List.length_cons]
      omega
    · simp only [h, decide_false, if_false, Bool.false_eq_true]
      omega
theorem one_ws (L : List Nat) : L.count 1 ≤ ws L := by
  unfold ws
  rw [List.count_eq_length_filter]
  induction L with
  | nil => simp
  | cons n r ih =>
    simp only [List.filter_cons]
    by_cases h : n = 1
    · subst h; simp; simpa using ih
    · have h3 : ¬ (n == 1) = true := by simpa using h
      simp only [h3, if_false, Bool.false_eq_true]
      by_cases h0 : 0 < n
      · simp only [h0, decide_true, if_true, List.length_cons]; omega
      · simp only [h0, decide_false, if_false, Bool.false_eq_true]; exact ih
theorem D1_ws {L : List Nat} (hf : Fits L) : (D1of L (ord L 15)).length = ws L := by
  rw [D1_length L _ (ord_nodup L 15) (fun s hs t ht h => wd_inj hf ht hs h), ord_ws L hf.1]

theorem okL_fits {L : List Nat} (hx : ∀ x ∈ L, x ≤ 15) (h : okL L) : Fits L := ⟨hx, h.1⟩
theorem okL_iff {L : List Nat} (hx : ∀ x ∈ L, x ≤ 15) : okL L ↔ checkL L = 0 := by
  have hc : checkL L = 0 ↔ (rm L = 32768 ∨ ws L = 0 ∨ ws L = 1 ∧ L.count 1 = 1) := by
    unfold checkL; split <;> simp_all
  rw [hc]
  constructor
  · intro h
    have hf := okL_fits hx h
    rcases h.2 with h2 | h2 | ⟨h2, h3⟩
    · left; rw [ends_rm, rm_rmK L hx] at h2; exact h2
    · right; left; rw [← D1_ws hf]; exact h2
    · right; right
      rw [D1_ws hf] at h2
      have h4 := one_ws L
      have h5 : 0 < L.count 1 := List.count_pos_iff.2 h3
      omega
  · intro h
    have hr : rm L ≤ 32768 := by
      rcases h with h | h | h
      · omega
      · have := rm_few L; rw [h] at this; omega
      · have := rm_few L; rw [h.1] at this; omega
    have hf := fits_of_room hx hr
    refine ⟨hf.2, ?_⟩
    rcases h with h | h | h
    · left; rw [ends_rm, rm_rmK L hx]; exact h
    · right; left; rw [D1_ws hf]; exact h
    · right; right; rw [D1_ws hf]; exact ⟨by omega, List.count_pos_iff.1 (by omega)⟩

end Go.Proofs.Ytobkmkdnkdbgeaa
