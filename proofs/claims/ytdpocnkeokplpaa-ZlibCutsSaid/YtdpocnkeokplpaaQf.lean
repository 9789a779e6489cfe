/- The fixed calls of layer 5's laws. Canonical codes: plain laws: which words there are, no word begins another, what reading comes to. The reference of layer 5: Check, Number, Put, Words. The reference of layer 5: Words. New refuses just what the reference refuses. Slices that came in, as the rows tell them, read. The law HuffMakes: its walk. -/
import Derived.Test.YtdpocnkeokplpaaQe
import Derived.Test.YtdpocnkeokplpaaQc
import Derived.Test.YtdpocnkeokplpaaQd
import Derived.Outline
import Derived.Test.YtdpocnkeokplpaaQb
namespace Go.Proofs.Ytdpocnkeokplpaa
open Go.RowKit Go.Hal
set_option linter.unusedVariables false
set_option linter.unusedSimpArgs false

theorem sortOk_1 : SortOk 19 94 := fun w v ps Rs hK hc hS => stable_1 ps hS hK hc
theorem sortOk_2 : SortOk 19 98 := fun w v ps Rs hK hc hS => stable_2 ps hS hK hc

theorem okL_2102 : okL [2, 1, 0, 2] := ⟨by decide +kernel, .inl (by decide +kernel)⟩
theorem okL_111 : ¬ okL [1, 1, 1] := fun h => absurd (h.1 1 (by omega)) (by decide +kernel)
theorem word_3 : wordOf [2, 1, 0, 2] 3 = (2, 3) := by decide +kernel
theorem word_0 : wordOf [2, 1, 0, 2] 0 = (2, 1) := by decide +kernel
theorem lens_5110 : lensM [5, 1, 1, 0] 15 = [1, 2, 2, 0] := by decide +kernel
theorem check_5110 : checkM [5, 1, 1, 0] 15 = 0 := by decide +kernel
theorem first_5110 : (firstM [5, 1, 1, 0]).length = 3 := by decide +kernel

end Go.Proofs.Ytdpocnkeokplpaa

namespace Go.Proofs.Ytdpocnkeokplpaa
open Go.RowKit Go.Hal
set_option linter.unusedVariables false
set_option linter.unusedSimpArgs false

theorem snoc_ind {α : Type} {p : List α → Prop} (h0 : p []) (h1 : ∀ l x, p l → p (l ++ [x])) : ∀ l, p l := by
  have key : ∀ l : List α, p l.reverse := by
    intro l
    induction l with
    | nil => exact h0
    | cons x r ih => rw [List.reverse_cons]; exact h1 _ _ ih
  intro l
  have := key l.reverse
  rwa [List.reverse_reverse] at this

section maps
variable {K : Type} [DecidableEq K]
theorem has_put (k k' : K) (v : Value) (D : List (K × Value)) : has k (Hal.put k' v D) = if k = k' then some v else has k D := by
  unfold Hal.put
  induction D with
  | nil =>
    simp only [place, has, List.nil_append, List.find?_cons, List.find?_nil]
    by_cases h : k = k' <;> simp [h]
  | cons e r ih =>
    simp only [place]
    by_cases hk : k' = e.1
    · simp only [hk, if_true, List.set_cons_zero]
      simp only [has, List.find?_cons]
      by_cases h : k = e.1 <;> simp [h]
    · simp only [hk, if_false]
      cases hp : place k' r with
      | none =>
        rw [hp] at ih
        simp only [Option.map_none, List.cons_append] at ih ⊢
        simp only [has, List.find?_cons] at ih ⊢
        by_cases h : k = e.1
        · have : ¬ k = k' := fun e' => hk (e'.symm.trans h)
          simp [h, this]
          intro h2; exact absurd h2.symm hk
        · simp only [h, decide_false]
          exact ih
      | some i =>
        rw [hp] at ih
        simp only [Option.map_some, List.set_cons_succ] at ih ⊢
        simp only [has, List.find?_cons] at ih ⊢
        by_cases h : k = e.1
        · simp [h]
          intro h2; exact absurd h2.symm hk
        · simp only [h, decide_false]
          exact ih
theorem put_length (k : K) (v : Value) (D : List (K × Value)) : (Hal.put k v D).length = if has k D = none then D.length + 1 else D.length := by
  unfold Hal.put
  cases h : place k D with
  | none => rw [if_pos (has_none.2 h)]; simp
  | some i => rw [if_neg (fun e => by rw [has_none.1 e] at h; cases h)]; simp
end maps

theorem mem_symsOf (L : List Nat) (n s t : Nat) : t ∈ symsOf L n s ↔ t < s ∧ L[t]? = some n := by simp [symsOf]
theorem symsOf_nodup (L : List Nat) (n s : Nat) : (symsOf L n s).Nodup := (List.filter_sublist (p := fun t => L[t]? == some n)).nodup List.nodup_range
theorem lt_of_get {L : List Nat} {t n : Nat} (h : L[t]? = some n) : t < L.length := (List.getElem?_eq_some_iff.1 h).1
theorem mem_ord (L : List Nat) (k t : Nat) : t ∈ ord L k ↔ ∃ n, 1 ≤ n ∧ n ≤ k ∧ L[t]? = some n := by
  induction k with
  | zero => simp only [ord, List.not_mem_nil, false_iff]; rintro ⟨n, h1, h2, -⟩; omega
  | succ k ih =>
    simp only [ord, List.mem_append, ih, mem_symsOf]
    constructor
    · rintro (⟨n, h1, h2, h3⟩ | ⟨-, h⟩)
      · exact ⟨n, h1, by omega, h3⟩
      · exact ⟨k + 1, by omega, by omega, h⟩
    · rintro ⟨n, h1, h2, h3⟩
      rcases Nat.lt_or_ge k n with h | h
      · obtain rfl : n = k + 1 := by omega
        exact .inr ⟨lt_of_get h3, h3⟩
      · exact .inl ⟨n, h1, h, h3⟩
theorem ord_nodup (L : List Nat) (k : Nat) : (ord L k).Nodup := by
  induction k with
  | zero => simp [ord]
  | succ k ih =>
    simp only [ord]
    rw [List.nodup_append]
    refine ⟨ih, symsOf_nodup _ _ _, fun a ha b hb => ?_⟩
    obtain ⟨n, h1, h2, h3⟩ := (mem_ord L k a).1 ha
    obtain ⟨-, h4⟩ := (mem_symsOf L (k + 1) L.length b).1 hb
    rintro rfl
    rw [h3] at h4
    simp only [Option.some.injEq] at h4
    omega

theorem rank_mono (L : List Nat) (n s t : Nat) (h : s ≤ t) : rank L n s ≤ rank L n t := by
  induction t with
  | zero => obtain rfl : s = 0 := by omega
            exact Nat.le_refl _
  | succ t ih =>
    rcases Nat.lt_or_ge t s with h2 | h2
    · obtain rfl : s = t + 1 := by omega
      exact Nat.le_refl _
    · have := ih h2
      rw [rank_succ]; omega
theorem rank_lt (L : List Nat) (n s t : Nat) (h : s < t) (hs : L[s]? = some n) : rank L n s < rank L n t := by
  have h1 := rank_succ L n s
  rw [if_pos hs] at h1
  have h2 := rank_mono L n (s + 1) t h
  omega
theorem ends_grow (L : List Nat) (m k : Nat) : ends L m * 2 ^ k ≤ ends L (m + k) := by
  induction k with
  | zero => simp
  | succ k ih => rw [← Nat.add_assoc]; simp only [ends, Nat.pow_succ]; rw [← Nat.mul_assoc]; omega

/-- What New asks of lengths, in steps. -/
def Fits (L : List Nat) : Prop := (∀ x ∈ L, x ≤ 15) ∧ ∀ m, m ≤ 15 → ends L m ≤ 2 ^ m
theorem len_le {L : List Nat} (h : Fits L) {t n : Nat} (ht : L[t]? = some n) : n ≤ 15 := h.1 n (List.mem_of_getElem? ht)

theorem code_eq {L : List Nat} {t n : Nat} (ht : L[t]? = some (n + 1)) : codeOf L t = 2 * ends L n + rank L (n + 1) t := by
  unfold codeOf; rw [ht]; simp
theorem code_lt {L : List Nat} {t n : Nat} (ht : L[t]? = some (n + 1)) : codeOf L t < ends L (n + 1) := by
  rw [code_eq ht]
  have := rank_lt L (n + 1) t L.length (lt_of_get ht) ht
  simp only [ends]; omega
theorem code_free {L : List Nat} {s t n m : Nat} (ht : L[t]? = some (n + 1)) (hs : L[s]? = some (m + 1)) (hnm : n ≤ m) (h : codeOf L s / 2 ^ (m - n) = codeOf L t) : s = t := by
  rcases Nat.lt_or_ge n m with hlt | hge
  · exfalso
    have h1 := code_lt ht
    have h2 := ends_grow L (n + 1) (m - n - 1)
    rw [show n + 1 + (m - n - 1) = m by omega] at h2
    have h3 := code_eq hs
    have h4 : ends L (n + 1) * 2 ^ (m - n) ≤ codeOf L s := by
      rw [show m - n = m - n - 1 + 1 by omega, Nat.pow_succ, ← Nat.mul_assoc]; omega
    have h5 : ends L (n + 1) ≤ codeOf L s / 2 ^ (m - n) := (Nat.le_div_iff_mul_le (Nat.two_pow_pos _)).2 h4
    omega
  · obtain rfl : n = m := by omega
    rw [Nat.sub_self, Nat.pow_zero, Nat.div_one, code_eq ht, code_eq hs] at h
    rcases Nat.lt_trichotomy s t with h1 | h1 | h1
    · have := rank_lt L (n + 1) s t h1 hs; omega
    · exact h1
    · have := rank_lt L (n + 1) t s h1 ht; omega

theorem rev_testBit (n v j : Nat) : (rev n v).testBit j = (decide (j < n) && v.testBit (n - 1 - j)) := by
  induction n generalizing j with
  | zero => simp [rev]
  | succ n ih =>
    simp only [rev]
    have hb : v / 2 ^ n % 2 = (v.testBit n).toNat := by
      rw [Nat.testBit_eq_decide_div_mod_eq]
      rcases Nat.mod_two_eq_zero_or_one (v / 2 ^ n) with h | h <;> simp [h]
    rw [hb]
    cases j with
    | zero =>
      rw [Nat.testBit_zero]
      simp only [Nat.zero_lt_succ, decide_true, Bool.true_and, Nat.add_sub_cancel, Nat.sub_zero]
      cases v.testBit n <;> simp [Nat.add_mod]
    | succ j =>
      rw [Nat.testBit_succ]
      have e : (2 * rev n v + (v.testBit n).toNat) / 2 = rev n v := by cases v.testBit n <;> simp <;> omega
      rw [e, ih]
      by_cases h : j < n
      · simp only [h, decide_true, Bool.true_and, show j + 1 < n + 1 by omega, show n + 1 - 1 - (j + 1) = n - 1 - j by omega]
      · simp only [h, decide_false, Bool.false_and, show ¬ j + 1 < n + 1 by omega]
theorem rev_mod (n m v : Nat) (h : n ≤ m) : rev m v % 2 ^ n = rev n (v / 2 ^ (m - n)) := by
  refine Nat.eq_of_testBit_eq fun j => ?_
  rw [Nat.testBit_mod_two_pow, rev_testBit, rev_testBit, Nat.testBit_div_two_pow]
  by_cases hj : j < n
  · simp only [hj, decide_true, Bool.true_and, show j < m by omega, show n - 1 - j + (m - n) = m - 1 - j by omega]
  · simp [hj]
theorem rev_inj (n v w : Nat) (hv : v < 2 ^ n) (hw : w < 2 ^ n) (h : rev n v = rev n w) : v = w := by
  refine Nat.eq_of_testBit_eq fun j => ?_
  by_cases hj : j < n
  · have h1 := congrArg (fun x => x.testBit (n - 1 - j)) h
    simp only [rev_testBit, show n - 1 - j < n by omega, decide_true, Bool.true_and, show n - 1 - (n - 1 - j) = j by omega] at h1
    exact h1
  · rw [Nat.testBit_lt_two_pow (Nat.lt_of_lt_of_le hv (Nat.pow_le_pow_right (by omega) (by omega))), Nat.testBit_lt_two_pow (Nat.lt_of_lt_of_le hw (Nat.pow_le_pow_right (by omega) (by omega)))]

theorem wd_at {L : List Nat} {t n : Nat} (ht : L[t]? = some n) : wd L t = (n, rev n (codeOf L t)) := by unfold wd; simp [ht]
/-- NO WORD BEGINS ANOTHER ONE. -/
theorem wd_free {L : List Nat} (hf : Fits L) {s t n m : Nat} (ht : L[t]? = some n) (hs : L[s]? = some m) (hn : 1 ≤ n) (hnm : n ≤ m) (h : (wd L s).2 % 2 ^ n = (wd L t).2) : s = t := by
  obtain ⟨n, rfl⟩ : ∃ k, n = k + 1 := ⟨n - 1, by omega⟩
  obtain ⟨m, rfl⟩ : ∃ k, m = k + 1 := ⟨m - 1, by omega⟩
  have hm15 := len_le hf hs
  rw [wd_at ht, wd_at hs] at h
  simp only at h
  rw [rev_mod _ _ _ hnm, show m + 1 - (n + 1) = m - n by omega] at h
  have h1 := code_lt ht
  have h2 := code_lt hs
  have h3 := hf.2 (n + 1) (by omega)
  have h4 := hf.2 (m + 1) (by omega)
  refine code_free ht hs (by omega) (rev_inj (n + 1) _ _ ?_ (by omega) h)
  refine (Nat.div_lt_iff_lt_mul (Nat.two_pow_pos _)).2 ?_
  rw [← Nat.pow_add, show n + 1 + (m - n) = m + 1 by omega]
  omega
theorem wd_lt {L : List Nat} (t : Nat) : (wd L t).2 < 2 ^ (wd L t).1 := by unfold wd; exact rev_lt _ _
theorem wd_inj {L : List Nat} (hf : Fits L) {s t : Nat} (ht : t ∈ ord L 15) (hs : s ∈ ord L 15) (h : wd L s = wd L t) : s = t := by
  obtain ⟨n, h1, h2, h3⟩ := (mem_ord _ _ _).1 ht
  obtain ⟨m, h4, h5, h6⟩ := (mem_ord _ _ _).1 hs
  have e : m = n := by
    have := congrArg Prod.fst h
    rw [wd_at h3, wd_at h6] at this
    exact this
  subst e
  refine wd_free hf h3 h6 h1 (Nat.le_refl _) ?_
  rw [h, Nat.mod_eq_of_lt]
  have := wd_lt (L := L) t
  rwa [wd_at h3] at this ⊢

theorem has_D1 (L done : List Nat) (k : Nat × Nat) (v : Value) (h : has k (D1of L done) = some v) : ∃ t ∈ done, wd L t = k ∧ v = .int .i64 (t : Nat) := by
  induction done using snoc_ind with
  | h0 => simp [D1of, has] at h
  | h1 l x ih =>
    rw [D1of_snoc, has_put] at h
    by_cases hk : k = wd L x
    · rw [if_pos hk] at h
      cases h
      exact ⟨x, by simp, hk.symm, rfl⟩
    · rw [if_neg hk] at h
      obtain ⟨t, h1, h2, h3⟩ := ih h
      exact ⟨t, by simp [h1], h2, h3⟩
theorem has_D1_none (L done : List Nat) (k : Nat × Nat) : has k (D1of L done) = none ↔ ∀ t ∈ done, wd L t ≠ k := by
  induction done using snoc_ind with
  | h0 => simp [D1of, has]
  | h1 l x ih =>
    rw [D1of_snoc, has_put]
    by_cases hk : k = wd L x
    · rw [if_pos hk]
      constructor
      · intro h; cases h
      · intro h; exact absurd hk.symm (h x (by simp))
    · rw [if_neg hk, ih]
      constructor
      · intro h t ht
        rcases List.mem_append.1 ht with ht | ht
        · exact h t ht
        · simp only [List.mem_singleton] at ht; subst ht; exact fun e => hk e.symm
      · exact fun h t ht => h t (by simp [ht])
theorem D1_length (L done : List Nat) (hn : done.Nodup) (hi : ∀ s ∈ done, ∀ t ∈ done, wd L s = wd L t → s = t) : (D1of L done).length = done.length := by
  induction done using snoc_ind with
  | h0 => simp [D1of]
  | h1 l x ih =>
    rw [List.nodup_append] at hn
    rw [D1of_snoc, put_length, if_pos, List.length_append, ih hn.1 (fun s hs t ht => hi s (by simp [hs]) t (by simp [ht]))]
    · simp
    · rw [has_D1_none]
      intro t ht e
      have := hi t (by simp [ht]) x (by simp) e
      exact hn.2.2 t ht x (by simp) this
theorem has_begs (w : Nat × Nat) (D : List ((Nat × Nat) × Value)) (n : Nat) (k : Nat × Nat) : has k (begs w D n) = if k.1 < n ∧ k.2 = w.2 % 2 ^ k.1 then some (.bool true) else has k D := by
  induction n with
  | zero => simp [begs]
  | succ n ih =>
    rw [begs_succ, has_put, ih]
    obtain ⟨k1, k2⟩ := k
    by_cases h : (k1, k2) = (n, w.2 % 2 ^ n)
    · simp only [Prod.mk.injEq] at h
      obtain ⟨rfl, rfl⟩ := h
      simp
    · rw [if_neg h]
      simp only [Prod.mk.injEq, not_and] at h
      by_cases h2 : k1 < n ∧ k2 = w.2 % 2 ^ k1
      · rw [if_pos h2, if_pos ⟨by simp only; omega, h2.2⟩]
      · rw [if_neg h2, if_neg]
        rintro ⟨h3, h4⟩
        simp only at h3 h4
        rcases Nat.lt_or_ge k1 n with h5 | h5
        · exact h2 ⟨h5, h4⟩
        · obtain rfl : k1 = n := by omega
          exact h rfl h4
theorem has_D2 (L done : List Nat) (k : Nat × Nat) : has k (D2of L done) = some (.bool true) ∧ (∃ t ∈ done, k.1 < (wd L t).1 ∧ k.2 = (wd L t).2 % 2 ^ k.1) ∨ has k (D2of L done) = none ∧ ¬ ∃ t ∈ done, k.1 < (wd L t).1 ∧ k.2 = (wd L t).2 % 2 ^ k.1 := by
  induction done using snoc_ind with
  | h0 => right; simp [D2of, has]
  | h1 l x ih =>
    rw [D2of_snoc, has_begs]
    by_cases hk : k.1 < (wd L x).1 ∧ k.2 = (wd L x).2 % 2 ^ k.1
    · rw [if_pos hk]; exact .inl ⟨rfl, x, by simp, hk⟩
    · rw [if_neg hk]
      rcases ih with ⟨h1, t, h2, h3⟩ | ⟨h1, h2⟩
      · exact .inl ⟨h1, t, by simp [h2], h3⟩
      · refine .inr ⟨h1, ?_⟩
        rintro ⟨t, h3, h4⟩
        rcases List.mem_append.1 h3 with h3 | h3
        · exact h2 ⟨t, h3, h4⟩
        · simp only [List.mem_singleton] at h3; subst h3; exact hk h4
theorem wsof_get (L done : List Nat) (s : Nat) (hs : s < L.length) : (wsof L done)[s]? = some (if s ∈ done then wd L s else (0, 0)) := by
  induction done using snoc_ind with
  | h0 => simp [wsof, hs]
  | h1 l x ih =>
    rw [wsof_snoc, List.getElem?_set]
    by_cases hx : x = s
    · subst hx
      simp [wsof_length, hs]
    · rw [if_neg hx, ih]
      have hx' : ¬ s = x := fun e => hx e.symm
      simp [hx']
theorem wordOf_at (L : List Nat) (hf : ∀ x ∈ L, x ≤ 15) (s : Nat) (hs : s < L.length) : wordOf L (s : Nat) = wd L s := by
  unfold wordOf
  rw [if_pos (by omega), Int.toNat_natCast, wsof_get _ _ _ hs, Option.getD_some]
  by_cases h : s ∈ ord L 15
  · rw [if_pos h]
  · rw [if_neg h]
    have ht : L[s]? = some L[s] := List.getElem?_eq_getElem hs
    have h0 : L[s] = 0 := by
      rcases Nat.eq_zero_or_pos L[s] with h0 | h0
      · exact h0
      · exact absurd ((mem_ord _ _ _).2 ⟨L[s], h0, hf _ (List.getElem_mem _), ht⟩) h
    rw [h0] at ht
    rw [wd_at ht]
    rfl
theorem wordOf_out (L : List Nat) (s : Int) (h : s < 0 ∨ (L.length : Int) ≤ s) : wordOf L s = (0, 0) := by
  unfold wordOf
  rcases h with h | h
  · rw [if_neg (by omega)]
  · rw [if_pos (by omega), List.getElem?_eq_none (by rw [wsof_length]; omega)]; rfl

/-- Reading a word: symbol, error, bits. -/
def hits (L : List Nat) (l : List Bool) (t : Nat) : Prop := (wd L t).1 ≤ l.length ∧ num (l.take (wd L t).1) = (wd L t).2
instance (L : List Nat) (l : List Bool) (t : Nat) : Decidable (hits L l t) := inferInstanceAs (Decidable (_ ∧ _))
def mayHit (L : List Nat) (l : List Bool) (t : Nat) : Prop := l.length < (wd L t).1 ∧ (wd L t).2 % 2 ^ l.length = num l
instance (L : List Nat) (l : List Bool) (t : Nat) : Decidable (mayHit L l t) := inferInstanceAs (Decidable (_ ∧ _))
def decL (L : List Nat) (l : List Bool) : Nat × Nat × Nat :=
  match (ord L 15).find? (fun t => decide (hits L l t)) with
  | some t => (t, 0, (wd L t).1)
  | none => if l = [] ∨ ∃ t ∈ ord L 15, mayHit L l t then (0, 2, 0) else (0, 6, 0)
theorem hits_one {L : List Nat} (hf : Fits L) {l : List Bool} {s t : Nat} (hs : s ∈ ord L 15) (ht : t ∈ ord L 15) (h1 : hits L l s) (h2 : hits L l t) : s = t := by
  obtain ⟨n, a1, a2, a3⟩ := (mem_ord _ _ _).1 ht
  obtain ⟨m, b1, b2, b3⟩ := (mem_ord _ _ _).1 hs
  unfold hits at h1 h2
  rcases Nat.le_total n m with h | h
  · refine wd_free hf a3 b3 a1 h ?_
    rw [← h1.2, ← h2.2, ← num_take, List.take_take, wd_at a3, wd_at b3]
    simp only
    rw [Nat.min_eq_left h]
  · refine (wd_free hf b3 a3 b1 h ?_).symm
    rw [← h1.2, ← h2.2, ← num_take, List.take_take, wd_at a3, wd_at b3]
    simp only
    rw [Nat.min_eq_left h]
theorem nextFrom_dec {L : List Nat} (hf : Fits L) (l : List Bool) : ∀ f n, f + n = 16 → n ≤ l.length → (∀ t ∈ ord L 15, hits L l t → n ≤ (wd L t).1) →
    nextFrom (D1of L (ord L 15)) (D2of L (ord L 15)) l f n = (.int .i64 ((decL L l).1 : Nat), (decL L l).2.1, (decL L l).2.2) := by
  intro f
  induction f with
  | zero =>
    intro n hn hl hh
    obtain rfl : n = 16 := by omega
    have hno : ∀ t ∈ ord L 15, ¬ hits L l t := by
      intro t ht h
      have h1 := hh t ht h
      obtain ⟨m, a1, a2, a3⟩ := (mem_ord _ _ _).1 ht
      rw [wd_at a3] at h1
      simp only at h1
      omega
    have hmay : ¬ (l = [] ∨ ∃ t ∈ ord L 15, mayHit L l t) := by
      rintro (rfl | ⟨t, ht, h⟩)
      · simp at hl
      · obtain ⟨m, a1, a2, a3⟩ := (mem_ord _ _ _).1 ht
        have := h.1
        rw [wd_at a3] at this
        simp only at this
        omega
    have hfind : (ord L 15).find? (fun t => decide (hits L l t)) = none := by
      rw [List.find?_eq_none]; intro t ht; simpa using hno t ht
    unfold decL
    rw [hfind]
    simp only [nextFrom, hmay, if_false]
    rw [if_neg (by omega)]
    rfl
  | succ f ih =>
    intro n hn hl hh
    simp only [nextFrom]
    cases hD : has (n, num (l.take n)) (D1of L (ord L 15)) with
    | some v =>
      obtain ⟨t, ht, hw, rfl⟩ := has_D1 _ _ _ _ hD
      have hit : hits L l t := by
        unfold hits; rw [hw]; exact ⟨hl, rfl⟩
      have hfind : (ord L 15).find? (fun t => decide (hits L l t)) = some t := by
        cases hfd : (ord L 15).find? (fun t => decide (hits L l t)) with
        | none => rw [List.find?_eq_none] at hfd; exact absurd hit (by simpa using hfd t ht)
        | some s =>
          have h1 := List.mem_of_find?_eq_some hfd
          have h2 := List.find?_some hfd
          rw [hits_one hf h1 ht (by simpa using h2) hit]
      unfold decL
      rw [hfind]
      simp only [hw]
    | none =>
      have hD1 := (has_D1_none _ _ _).1 hD
      have hh1 : ∀ t ∈ ord L 15, hits L l t → n + 1 ≤ (wd L t).1 := by
        intro t ht h
        have h1 := hh t ht h
        rcases Nat.lt_or_ge n (wd L t).1 with h2 | h2
        · exact h2
        · exfalso
          have e : (wd L t).1 = n := by omega
          refine hD1 t ht (Prod.ext e ?_)
          rw [← h.2, e]
      have hpre : ∀ t ∈ ord L 15, n < (wd L t).1 → (hits L l t ∨ mayHit L l t) → (wd L t).2 % 2 ^ n = num (l.take n) := by
        intro t ht h1 h2
        rcases h2 with h2 | h2
        · rw [← h2.2, ← num_take, List.take_take, Nat.min_eq_left (by omega)]
        · rw [num_take, ← h2.2, Nat.mod_mod_of_dvd]
          exact Nat.pow_dvd_pow 2 hl
      rcases has_D2 L (ord L 15) (n, num (l.take n)) with ⟨h1, t, ht, h2, h3⟩ | ⟨h1, h2⟩
      · rw [h1, if_neg (by simp)]
        by_cases hln : l.length ≤ n
        · have e : n = l.length := by omega
          have hfind : (ord L 15).find? (fun t => decide (hits L l t)) = none := by
            rw [List.find?_eq_none]
            intro s hs
            have := hh1 s hs
            simp only [decide_eq_true_eq]
            intro hsx
            have h4 := this hsx
            have h5 := hsx.1
            omega
          unfold decL
          rw [if_pos hln, hfind]
          simp only
          rw [if_pos (.inr ⟨t, ht, by rw [e] at h2; exact h2, by
            simp only at h3
            rw [e, List.take_length] at h3
            exact h3.symm⟩)]
          rfl
        · rw [if_neg hln]
          exact ih (n + 1) (by omega) (by omega) hh1
      · by_cases h0 : 0 < n
        · rw [if_pos ⟨h0, h1⟩]
          have hno : ∀ t ∈ ord L 15, ¬ hits L l t := fun t ht h => h2 ⟨t, ht, hh1 t ht h, (hpre t ht (hh1 t ht h) (.inl h)).symm⟩
          have hfind : (ord L 15).find? (fun t => decide (hits L l t)) = none := by
            rw [List.find?_eq_none]; intro t ht; simpa using hno t ht
          unfold decL
          rw [hfind]
          simp only
          rw [if_neg]
          · rfl
          · rintro (rfl | ⟨t, ht, h⟩)
            · simp at hl; omega
            · have := h.1
              exact h2 ⟨t, ht, by simp only; omega, (hpre t ht (by omega) (.inr h)).symm⟩
        · obtain rfl : n = 0 := by omega
          rw [if_neg (by omega)]
          by_cases hln : l.length ≤ 0
          · obtain rfl : l = [] := List.eq_nil_of_length_eq_zero (by omega)
            have hfind : (ord L 15).find? (fun t => decide (hits L [] t)) = none := by
              rw [List.find?_eq_none]
              intro s hs
              simp only [decide_eq_true_eq]
              intro hsx
              have h4 := hh1 s hs hsx
              have h5 := hsx.1
              simp only [List.length_nil] at h5
              omega
            unfold decL
            rw [hfind]
            simp
          · rw [if_neg hln]
            exact ih 1 (by omega) (by omega) hh1

end Go.Proofs.Ytdpocnkeokplpaa

namespace Go.Proofs.Ytdpocnkeokplpaa
open Go.RowKit Go.Hal
set_option linter.unusedVariables false
set_option linter.unusedSimpArgs false

/-- The room that words take. -/
def rm (L : List Nat) : Nat := (L.map fun n => if 0 < n then 2 ^ (15 - n) else 0).sum
def ws (L : List Nat) : Nat := (L.filter (fun n => decide (0 < n))).length
def checkL (L : List Nat) : Nat := if rm L = 32768 ∨ ws L = 0 ∨ ws L = 1 ∧ L.count 1 = 1 then 0 else 5
def badL (xs : List Int) : Prop := 288 < xs.length ∨ ∃ x ∈ xs, x < 0 ∨ 15 < x
instance (xs : List Int) : Decidable (badL xs) := inferInstanceAs (Decidable (_ ∨ _))
def natL (xs : List Int) : List Nat := xs.map Int.toNat
def checkI (xs : List Int) : Nat := if badL xs then 1 else checkL (natL xs)

theorem rm_snoc (L : List Nat) (n : Nat) : rm (L ++ [n]) = rm L + if 0 < n then 2 ^ (15 - n) else 0 := by simp [rm]
theorem ws_snoc (L : List Nat) (n : Nat) : ws (L ++ [n]) = ws L + if 0 < n then 1 else 0 := by
  unfold ws; by_cases h : 0 < n <;> simp [h]
theorem one_snoc (L : List Nat) (n : Nat) : (L ++ [n]).count 1 = L.count 1 + if n = 1 then 1 else 0 := by
  rw [List.count_append, List.count_singleton]
  by_cases h : n = 1 <;> simp [h]
theorem rm_le (L : List Nat) : rm L ≤ L.length * 16384 := by
  induction L with
  | nil => simp [rm]
  | cons n r ih =>
    simp only [rm, List.map_cons, List.sum_cons, List.length_cons] at *
    have : (if 0 < n then 2 ^ (15 - n) else 0) ≤ 16384 := by
      by_cases h : 0 < n
      · rw [if_pos h]
        exact Nat.le_trans (Nat.pow_le_pow_right (by omega) (show 15 - n ≤ 14 by omega)) (by decide)
      · rw [if_neg h]; omega
    omega
theorem ws_le (L : List Nat) : ws L ≤ L.length := List.length_filter_le _ _

theorem add_nat (a z : Nat) (ha : a ≤ 1099511627776) (hz : z ≤ 32768) : wrap64 ((a : Int) + wrap64 (z : Int)) = ((a + z : Nat) : Int) := by
  have e1 : wrap64 (z : Int) = z := wrap64_id _ (by omega) (by omega)
  rw [e1, wrap64_id _ (by omega) (by omega)]
  omega
theorem add_pow (a n : Nat) (ha : a ≤ 1099511627776) : wrap64 ((a : Int) + wrap64 (2 ^ (15 - n))) = ((a + 2 ^ (15 - n) : Nat) : Int) := by
  have hp : 2 ^ (15 - n) ≤ 32768 := Nat.le_trans (Nat.pow_le_pow_right (by omega) (show 15 - n ≤ 15 by omega)) (by decide)
  have e : ((2 : Int) ^ (15 - n)) = ((2 ^ (15 - n) : Nat) : Int) := by simp
  rw [e]
  exact add_nat a _ ha hp

set_option maxRecDepth 100000 in
set_option maxHeartbeats 1000000 in
theorem check_any (v : Value) (xs : List Int) (w : World) (hv : IntsR w v xs) :
    Calls Try.prog 85 #[v] w fun e w' => e = .returned (.int .i64 (checkI xs)) ∧ w = w' := by
  obtain ⟨ao, cap, rfl, h1, h2, hc⟩ := hv.cell
  have Hc := Lib.hid hc
  clear hc hv
  by_cases hl : 288 < xs.length
  · have he : checkI xs = 1 := by unfold checkI; rw [if_pos (.inl hl)]
    have He := Lib.hid he
    clear he
    go_enter Try.func85, Try.ntmps85
    go_wp2
    go_ret
    exact ⟨by rw [He.out]; rfl, rfl⟩
  · go_enter Try.func85, Try.ntmps85
    go_wp2
    go_loop [3, 4, 5, 13] (fun r q o i => ∃ (k a b c : Nat), k ≤ xs.length ∧ (∀ x ∈ xs.take k, 0 ≤ x ∧ x ≤ 15) ∧ Hid (a = rm (natL (xs.take k)) ∧ b = ws (natL (xs.take k)) ∧ c = (natL (xs.take k)).count 1) ∧ a ≤ k * 16384 ∧ b ≤ k ∧ c ≤ k ∧ r = .int .i64 a ∧ q = .int .i64 b ∧ o = .int .i64 c ∧ i = .int .i64 k) (fun _ _ _ i => xs.length - (intOf i).toNat)
    case atStart => exact ⟨0, 0, 0, 0, by omega, by simp, by unfold Hid; simp [natL, rm, ws], by omega, by omega, by omega, rfl, rfl, rfl, rfl⟩
    case round =>
      obtain ⟨k, a, b, c, hk, hg, H, ha, hb, hc, rfl, rfl, rfl, rfl⟩ := hrel
      have Hg := Lib.hid hg
      clear hg
      by_cases hlt : k < xs.length
      · obtain ⟨ba, oa, rfl, -, hcell⟩ := Hc.out k hlt
        obtain ⟨x, Hx⟩ : ∃ x, Hid (x = xs[k]) := ⟨_, Lib.hid rfl⟩
        rw [← Hx.out] at hcell
        have hd : decide (k < xs.length) = true := decide_eq_true hlt
        by_cases hbad : x < 0 ∨ 15 < x
        · have he : checkI xs = 1 := by
            unfold checkI; rw [if_pos (.inr ⟨x, by rw [Hx.out]; exact List.getElem_mem _, hbad⟩)]
          have He := Lib.hid he
          clear he
          by_cases h0 : x < 0
          · have d1 : decide (x < 0) = true := decide_eq_true h0
            go_wp2
            go_ret
            exact ⟨by rw [He.out]; rfl, rfl⟩
          · have d1 : decide (x < 0) = false := decide_eq_false h0
            have d2 : decide (15 < x) = true := decide_eq_true (by omega)
            go_wp2
            go_ret
            exact ⟨by rw [He.out]; rfl, rfl⟩
        · obtain ⟨n, rfl⟩ : ∃ n : Nat, x = n := ⟨x.toNat, by omega⟩
          have hn : n ≤ 15 := by omega
          have d1 : decide ((n : Int) < 0) = false := decide_eq_false (by omega)
          have d2 : decide (15 < n) = false := decide_eq_false (by omega)
          have hsn : natL (xs.take (k + 1)) = natL (xs.take k) ++ [n] := by
            unfold natL; rw [List.take_succ_eq_append_getElem hlt, List.map_append, ← Hx.out]; simp
          have Hsn := Lib.hid hsn
          have Hg2 : Hid (∀ x ∈ xs.take (k + 1), 0 ≤ x ∧ x ≤ 15) := by
            unfold Hid
            intro y hy
            rw [List.take_succ_eq_append_getElem hlt, List.mem_append] at hy
            rcases hy with hy | hy
            · exact Hg.out y hy
            · simp only [List.mem_singleton] at hy; rw [← Hx.out] at hy; omega
          clear hbad hsn
          have hp : 2 ^ (15 - n) ≤ 32768 := Nat.le_trans (Nat.pow_le_pow_right (by omega) (show 15 - n ≤ 15 by omega)) (by decide)
          have hsh := add_pow a n (by omega)
          have Hsh := Lib.hid hsh
          have Hp := Lib.hid hp
          clear hsh hp
          by_cases hn0 : 0 < n
          · have d3 : decide (0 < n) = true := decide_eq_true hn0
            have hp2 : 2 ^ (15 - n) ≤ 16384 := Nat.le_trans (Nat.pow_le_pow_right (by omega) (show 15 - n ≤ 14 by omega)) (by decide)
            have Hp2 := Lib.hid hp2
            clear hp2
            by_cases hn1 : n = 1
            · have d4 : ((n : Int) == 1) = true := by simp [hn1]
              have Hn1 := Lib.hid hn1
              clear hn1
              go_wp2
              refine ⟨⟨k + 1, a + 2 ^ (15 - n), b + 1, c + 1, by omega, Hg2.out, ⟨?_, ?_, ?_⟩, by have := Hp2.out; omega, by omega, by omega, vi (Hsh.out), vi (by omega), vi (by omega), vi (by omega)⟩, by simp [intOf]; omega⟩
              · rw [Hsn.out, rm_snoc, if_pos hn0, ← H.out.1]
              · rw [Hsn.out, ws_snoc, if_pos hn0, ← H.out.2.1]
              · rw [Hsn.out, one_snoc, if_pos Hn1.out, ← H.out.2.2]
            · have d4 : ((n : Int) == 1) = false := by simp; omega
              have Hn1 := Lib.hid hn1
              clear hn1
              go_wp2
              refine ⟨⟨k + 1, a + 2 ^ (15 - n), b + 1, c, by omega, Hg2.out, ⟨?_, ?_, ?_⟩, by have := Hp2.out; omega, by omega, by omega, vi (Hsh.out), vi (by omega), vi (by omega), vi (by omega)⟩, by simp [intOf]; omega⟩
              · rw [Hsn.out, rm_snoc, if_pos hn0, ← H.out.1]
              · rw [Hsn.out, ws_snoc, if_pos hn0, ← H.out.2.1]
              · rw [Hsn.out, one_snoc, if_neg Hn1.out, ← H.out.2.2, Nat.add_zero]
          · obtain rfl : n = 0 := by omega
            have d3 : decide (0 < 0) = false := by simp
            go_wp2
            refine ⟨⟨k + 1, a, b, c, by omega, Hg2.out, ⟨?_, ?_, ?_⟩, by omega, by omega, by omega, vi rfl, vi rfl, vi rfl, vi (by omega)⟩, by simp [intOf]; omega⟩
            · rw [Hsn.out, rm_snoc, if_neg (by omega), ← H.out.1, Nat.add_zero]
            · rw [Hsn.out, ws_snoc, if_neg (by omega), ← H.out.2.1, Nat.add_zero]
            · rw [Hsn.out, one_snoc, if_neg (by omega), ← H.out.2.2, Nat.add_zero]
      · obtain rfl : k = xs.length := by omega
        have hd : decide (xs.length < xs.length) = false := by simp
        rw [List.take_length] at H
        have hnb : ¬ badL xs := by
          rintro (h | ⟨x, hx, hb⟩)
          · omega
          · have := Hg.out x (by rw [List.take_length]; exact hx)
            omega
        have he : checkI xs = if a = 32768 ∨ b = 0 ∨ b = 1 ∧ c = 1 then 0 else 5 := by
          unfold checkI checkL
          rw [if_neg hnb, ← H.out.1, ← H.out.2.1, ← H.out.2.2]
        have He := Lib.hid he
        clear he hnb
        by_cases e1 : a = 32768
        · have d1 : ((a : Int) == 32768) = true := by simp [e1]
          have E1 := Lib.hid e1
          clear e1
          go_wp2
          go_ret
          exact ⟨by rw [He.out, if_pos (.inl E1.out)]; rfl, rfl⟩
        · have d1 : ((a : Int) == 32768) = false := by simp; omega
          by_cases e2 : b = 0
          · have d2 : ((b : Int) == 0) = true := by simp [e2]
            have E2 := Lib.hid e2
            clear e2
            go_wp2
            go_ret
            exact ⟨by rw [He.out, if_pos (.inr (.inl E2.out))]; rfl, rfl⟩
          · have d2 : ((b : Int) == 0) = false := by simp; omega
            by_cases e3 : b = 1
            · have d3 : ((b : Int) == 1) = true := by simp [e3]
              have E3 := Lib.hid e3
              clear e3
              by_cases e4 : c = 1
              · have d4 : ((c : Int) == 1) = true := by simp [e4]
                have E4 := Lib.hid e4
                clear e4
                go_wp2
                go_ret
                exact ⟨by rw [He.out, if_pos (.inr (.inr ⟨E3.out, E4.out⟩))]; rfl, rfl⟩
              · have d4 : ((c : Int) == 1) = false := by simp; omega
                go_wp2
                go_ret
                exact ⟨by rw [He.out, if_neg (by omega)]; rfl, rfl⟩
            · have d3 : ((b : Int) == 1) = false := by simp; omega
              go_wp2
              go_ret
              exact ⟨by rw [He.out, if_neg (by omega)]; rfl, rfl⟩

/-- The number of bits, the first the lowest, as ints. -/
def bitI (b : Bool) : Int := b.toNat
def bitsI (l : List Bool) : List Int := l.map bitI

set_option maxRecDepth 100000 in
set_option maxHeartbeats 400000 in
theorem number_any (v : Value) (l : List Bool) (w : World) (hl : l.length ≤ 60) (hv : IntsR w v (bitsI l)) :
    Calls Try.prog 77 #[v] w fun e w' => e = .returned (.int .i64 (num l)) ∧ w = w' := by
  have hlen : (bitsI l).length = l.length := by simp [bitsI]
  obtain ⟨ao, cap, rfl, h1, h2, hc⟩ := hv.cell
  have hc' : ∀ k (hk : k < l.length), ∃ b o, ao = some ⟨b, o, none⟩ ∧ w.cell? ⟨b, o + k, none⟩ = some (.int .i64 (l[k].toNat : Nat)) := by
    intro k hk
    obtain ⟨b, o, e, -, hb⟩ := hc k (by omega)
    exact ⟨b, o, e, by rw [hb]; simp [bitsI, bitI]⟩
  rw [hlen] at h1 ⊢
  have Hc := Lib.hid hc'
  clear hc hc' hv hlen
  go_enter Try.func77, Try.ntmps77
  go_wp2
  go_loop [3, 4] (fun n i => ∃ k z : Nat, k ≤ l.length ∧ Hid (z = num (l.drop k)) ∧ z < 2 ^ 60 ∧ n = .int .i64 z ∧ i = .int .i64 ((k : Int) - 1)) (fun _ i => (intOf i + 1).toNat)
  case atStart => exact ⟨l.length, 0, by omega, by unfold Hid; simp [num], by omega, rfl, rfl⟩
  case round =>
    obtain ⟨k, z, hk, Hz, hz, rfl, rfl⟩ := hrel
    rcases Nat.eq_zero_or_pos k with h0 | h0
    · subst h0
      go_wp2
      go_ret
      exact ⟨ret_int (by rw [Hz.out]; rfl), rfl⟩
    · obtain ⟨j, rfl⟩ : ∃ j, k = j + 1 := ⟨k - 1, by omega⟩
      have hj : j < l.length := by omega
      obtain ⟨b, o, rfl, hcell⟩ := Hc.out j hj
      have hdrop : num (l.drop j) = l[j].toNat + 2 * num (l.drop (j + 1)) := by
        rw [List.drop_eq_getElem_cons hj]; rfl
      have hb1 : l[j].toNat ≤ 1 := by cases l[j] <;> simp
      have hlt : num (l.drop j) < 2 ^ 60 := Nat.lt_of_lt_of_le (num_lt _) (Nat.pow_le_pow_right (by omega) (by simp; omega))
      obtain ⟨d, Hd⟩ : ∃ d, Hid (d = l[j].toNat) := ⟨_, Lib.hid rfl⟩
      rw [← Hd.out] at hcell hdrop hb1
      rw [← Hz.out] at hdrop
      have Hdrop := Lib.hid hdrop
      have hlt2 : d + 2 * z < 2 ^ 60 := by omega
      have e : ((j + 1 : Nat) : Int) - 1 = (j : Int) := by omega
      rw [e]
      have hd0 : decide ((0 : Int) ≤ (j : Int)) = true := decide_eq_true (by omega)
      clear hdrop hlt e
      go_wp2
      refine ⟨⟨j, d + 2 * z, by omega, Hdrop.out.symm, hlt2, vi (by omega), vi (by omega)⟩, by simp [intOf] <;> omega⟩

end Go.Proofs.Ytdpocnkeokplpaa

namespace Go.Proofs.Ytdpocnkeokplpaa
open Go.RowKit Go.Hal
set_option linter.unusedVariables false
set_option linter.unusedSimpArgs false

/-- A word's bits, the first first. -/
def wbits (L : List Nat) (t : Nat) : List Bool := (List.range ((L[t]?).getD 0)).map fun i => (codeOf L t).testBit ((L[t]?).getD 0 - 1 - i)
theorem wbits_length (L : List Nat) (t : Nat) : (wbits L t).length = (wd L t).1 := by simp [wbits, wd]
theorem num_wbits (L : List Nat) (t : Nat) : num (wbits L t) = (wd L t).2 := by
  refine (num_eq fun k => ?_).symm
  unfold wd wbits
  simp only
  rw [rev_testBit, List.getElem?_map]
  by_cases h : k < (L[t]?).getD 0
  · rw [List.getElem?_range h]; simp only [h, decide_true, Bool.true_and, Option.map_some, Option.getD_some]
  · rw [List.getElem?_eq_none (l := List.range ((L[t]?).getD 0)) (by rw [List.length_range]; omega)]; simp [h]

/-- The code that comes next. -/
def nextC (L : List Nat) (n s : Nat) : Nat := 2 * ends L (n - 1) + rank L n s
theorem nextC_succ (L : List Nat) (n s : Nat) : nextC L n (s + 1) = nextC L n s + if L[s]? = some n then 1 else 0 := by
  unfold nextC; rw [rank_succ]; omega
theorem nextC_up (L : List Nat) (n : Nat) (h : 1 ≤ n) : nextC L (n + 1) 0 = 2 * nextC L n L.length := by
  obtain ⟨n, rfl⟩ : ∃ m, n = m + 1 := ⟨n - 1, by omega⟩
  unfold nextC
  simp only [Nat.add_sub_cancel, ends, rank, symsOf]
  simp
theorem ends_le (L : List Nat) (n : Nat) : ends L n + L.length ≤ L.length * 2 ^ n := by
  induction n with
  | zero => simp [ends]
  | succ n ih =>
    simp only [ends, Nat.pow_succ]
    have h1 := rank_le L (n + 1) L.length
    rw [← Nat.mul_assoc]
    omega

def wordC (T : List (Nat × Value)) : List Value := T.flatMap fun x => [.int .i64 (x.1 : Nat), x.2]
theorem wordC_append (a b : List (Nat × Value)) : wordC (a ++ b) = wordC a ++ wordC b := by simp [wordC]
/-- A word that lies there. -/
def entW (L : List Nat) (x : Nat × Value) : Ent := ⟨3, 1, (wbits L x.1).length, x.2, (bitsI (wbits L x.1)).map intV⟩

theorem nextC_le (L : List Nat) (n s : Nat) (h1 : 1 ≤ n) (h15 : n ≤ 15) (hl : L.length ≤ 288) (hs : s ≤ L.length) : nextC L n s ≤ 18874368 := by
  unfold nextC
  have h2 := ends_le L (n - 1)
  have h3 := rank_le L n s
  have h4 : L.length * 2 ^ (n - 1) ≤ 288 * 2 ^ 14 := Nat.mul_le_mul hl (Nat.pow_le_pow_right (by omega) (by omega))
  omega

/-- What has been laid when length n is at symbol s. -/
def WRel (L : List Nat) (Rs : List Res) (done : List Nat) (n s : Nat) (out v ahead : Value) (wr : World) : Prop :=
  ∃ (T : List (Nat × Value)) (P : List Ent) (c a : Nat), Hid (T.map (·.1) = done) ∧ T.length ≤ (n - 1) * 288 + s ∧ Hid (∀ x ∈ T, entW L x ∈ P) ∧ v = .int .i64 c ∧ ahead = .int .i64 a ∧ c ≤ 18874368 ∧ a ≤ n ∧
    (T.length = 0 ∧ c = 0 ∧ Hid (nextC L n s = 0) ∨ 0 < T.length ∧ 1 ≤ a ∧ Hid ((c + 1) * 2 ^ (n - a) = nextC L n s)) ∧
    Sat wr (sl 156 2 T.length out (wordC T) :: pool P :: Rs)

theorem Try.infoIntW : (Try.prog.info? 3).map (fun i => (i.zero, i.size, i.bytes)) = some (some (.int .i64 0), 1, 8) := by kernel_rfl
theorem Try.infoRW : (Try.prog.info? 156).map (fun i => (i.zero, i.size, i.bytes)) = some (some (.agg #[.int .i64 0, .slice none 0 0]), 2, 32) := by kernel_rfl

theorem shl_code (c n a x : Nat) (hx : (c + 1) * 2 ^ (n - a) = x) (hx2 : x ≤ 18874368) :
    wrap64 (((c : Int) + 1) * 2 ^ (n - a)) = (x : Nat) := by
  have e2 : ((c : Int) + 1) * 2 ^ (n - a) = (x : Int) := by rw [← hx]; simp
  rw [e2, wrap64_id _ (by omega) (by omega)]

theorem bit_i64 (x q : Nat) (hx : x < 2 ^ 60) : bits .and .i64 ((x : Int) / 2 ^ q) 1 = ((x.testBit q).toNat : Nat) := by
  have e2 : ((x : Int) / 2 ^ q) = ((x / 2 ^ q : Nat) : Int) := by simp
  have h3 : x / 2 ^ q ≤ x := Nat.div_le_self _ _
  rw [e2, testBit_div]
  generalize x / 2 ^ q = z at *
  rw [and1 _ (by omega) (by omega)]
  omega

set_option maxRecDepth 100000 in
set_option maxHeartbeats 2000000 in
theorem words_any {w : World} {Rs : List Res} (hS : Sat w Rs) (v : Value) (L : List Nat) (hv : ∀ w', Sat w' Rs → IntsR w' v (natsV L)) (hl : L.length ≤ 288) (hx : ∀ x ∈ L, x ≤ 15) :
    Calls Try.prog 80 #[v] w fun e w' => ∃ (out : Value) (T : List (Nat × Value)) (P : List Ent), e = .returned out ∧ T.map (·.1) = ord L 15 ∧ (∀ x ∈ T, entW L x ∈ P) ∧ Sat w' (sl 156 2 T.length out (wordC T) :: pool P :: Rs) := by
  have hlen : (natsV L).length = L.length := by simp [natsV]
  obtain ⟨ao, cap, rfl, h1, h2, -⟩ := (hv w hS).cell
  have hcell : ∀ w', Sat w' Rs → ∀ k (hk : k < L.length), ∃ b o, ao = some ⟨b, o, none⟩ ∧ w'.cell? ⟨b, o + k, none⟩ = some (.int .i64 (L[k] : Nat)) := by
    intro w' h k hk
    obtain ⟨ao', cap', heq, -, -, hc⟩ := (hv w' h).cell
    simp only [Value.slice.injEq, true_and] at heq
    obtain ⟨rfl, rfl⟩ := heq
    obtain ⟨b, o, e, -, hb⟩ := hc k (by rw [hlen]; exact hk)
    exact ⟨b, o, e, by rw [hb]; simp [natsV]⟩
  rw [hlen] at h1 ⊢
  have Hc := Lib.hid hcell
  have Hx := Lib.hid hx
  obtain ⟨i0, hi, hz0, hz1, hz2⟩ := info_parts Try.infoRW
  obtain ⟨i1, hi1, hy0, hy1, hy2⟩ := info_parts Try.infoIntW
  clear hv hcell hx hlen
  go_enter Try.func80, Try.ntmps80
  go_wp2
  go_loopw [3, 4, 5, 6] (fun out v a i wr => ∃ n : Nat, 1 ≤ n ∧ n ≤ 16 ∧ i = .int .i64 n ∧ WRel L Rs (ord L (n - 1)) n 0 out v a wr) (fun _ _ _ i _ => 17 - (intOf i).toNat)
  case atStart =>
    refine ⟨1, by omega, by omega, rfl, [], [], 0, 0, ?_, by simp, ?_, rfl, rfl, by omega, by omega, .inl ⟨rfl, rfl, ?_⟩, (hS.pool_nil).sl_nil _ _ _⟩
    · unfold Hid; simp [ord]
    · unfold Hid; simp
    · unfold Hid; simp [nextC, ends, rank, symsOf]
  case round =>
    obtain ⟨n, hn1, hn16, rfl, hrel2⟩ := hrel
    by_cases hn : n ≤ 15
    · have hd : decide ((n : Int) ≤ 15) = true := decide_eq_true (by omega)
      have Hrel := Lib.hid hrel2
      clear hrel2
      go_wp2
      go_loopw [3, 4, 5, 17] (fun out v a i wr => ∃ s : Nat, s ≤ L.length ∧ i = .int .i64 s ∧ WRel L Rs (ord L (n - 1) ++ symsOf L n s) n s out v a wr) (fun _ _ _ i _ => L.length - (intOf i).toNat)
      case atStart => exact ⟨0, by omega, rfl, by simpa [symsOf] using Hrel.out⟩
      case round =>
        obtain ⟨s, hs, rfl, T, P, c, a, HT, hTl, HTP, rfl, rfl, hc, ha, hcase, hS1⟩ := hrel
        have hSr : Sat wr Rs := Sat.perm (As := [_, _]) (Bs := []) hS1 [] rfl (by simp)
        obtain ⟨F3, ao3, cap3, rfl, -, -, -, -⟩ := hS1.first
        by_cases hlt : s < L.length
        · obtain ⟨b, o, rfl, hcs⟩ := Hc.out wr hSr s hlt
          have hd2 : decide (s < L.length) = true := decide_eq_true hlt
          by_cases hhit : L[s] = n
          · have hLs : L[s]? = some n := by rw [List.getElem?_eq_getElem hlt, hhit]
            have hcode : codeOf L s = nextC L n s := by
              unfold codeOf nextC; rw [hLs]; rfl
            have hw1 : (wbits L s).length = n := by rw [wbits_length, wd_at hLs]
            have hbit : ∀ j, j < n → (wbits L s)[j]? = some ((codeOf L s).testBit (n - 1 - j)) := by
              intro j hj; simp [wbits, hLs, hj]
            have hnc := nextC_le L n s hn1 hn hl hs
            have hTd : T.map (·.1) ++ [s] = ord L (n - 1) ++ symsOf L n (s + 1) := by
              rw [symsOf_succ, if_pos hLs, ← List.append_assoc, HT.out]
            have hTl2 : T.length ≤ 8192 := by omega
            obtain ⟨x, Hxc⟩ : ∃ x, Hid (x = nextC L n s) := ⟨_, Lib.hid rfl⟩
            have heq : (((L[s] : Nat) : Int) != (n : Int)) = false := by simp [hhit]
            have HLs := Lib.hid hLs
            have Hcode := Lib.hid hcode
            have Hw1 := Lib.hid hw1
            have Hbit := Lib.hid hbit
            have HTd := Lib.hid hTd
            rw [← Hxc.out] at hnc
            clear hhit hLs hcode hw1 hbit hTd
            rcases hcase with ⟨h0, hc0, hz⟩ | ⟨h0, ha1, hz⟩
            · have d1 : decide (0 < T.length) = false := decide_eq_false (by omega)
              obtain rfl : c = x := by rw [hc0, Hxc.out, hz.out]
              have H0 := Lib.hid h0
              clear hc0 h0
              have Hsh := Lib.hid (show (c : Int) = c from rfl)
              go_wp2
              have hA := hS1.alloc (.cells #[.int .i64 (s : Nat), .slice none 0 0] 156)
              have hC := Sat.swap (hA.sl_nil 3 1 none)
              generalize (wr.alloc (.cells #[.int .i64 (s : Nat), .slice none 0 0] 156)) = W at hC ⊢
              generalize wr.heap.size = wb at hC ⊢
              clear hA hS1 hSr hcs
              go_loopw [10] (fun i wq => ∃ (m : Nat) (bv : Value), m ≤ n ∧ i = .int .i64 ((m : Int) - 1) ∧ Sat wq (blk wb (.cells #[.int .i64 (s : Nat), bv] 156 (0, 0)) :: sl 3 1 (n - m) bv ((bitsI ((wbits L s).take (n - m))).map intV) :: sl 156 2 T.length (.slice ao3 T.length cap3) (wordC T) :: pool P :: Rs)) (fun i _ => (intOf i + 1).toNat)
              case atStart => exact ⟨n, .slice none 0 0, by omega, rfl, by simpa [bitsI] using hC⟩
              case round =>
                obtain ⟨m, bv, hm, rfl, hS2⟩ := hrel
                have hbk := (hS2.at_ 0 _ rfl).choose_spec.2
                obtain ⟨Fb, aob, capb, rfl, -, -, -, -⟩ := hS2.at_ 1 _ rfl
                have q0 : wr.cell? ⟨wb, 0, none⟩ = some (.int .i64 (s : Nat)) := by rw [cell_of_row wr wb 0 _ _ _ hbk]; rfl
                have q1 : wr.cell? ⟨wb, 1, none⟩ = some (.slice aob (n - m) capb) := by rw [cell_of_row wr wb 1 _ _ _ hbk]; rfl
                have f0 := frozen_of_row wr wb 0 _ _ hbk
                have f1 := frozen_of_row wr wb 1 _ _ hbk
                rcases Nat.eq_zero_or_pos m with h0 | h0
                · subst h0
                  rw [Nat.sub_zero] at q1 hS2
                  rw [List.take_of_length_le (by rw [Hw1.out]; omega)] at hS2
                  have hS3 := Sat.perm (As := [_, _, _, _]) hS2 [2, 1, 3] [_, _, _] rfl (by simp)
                  have hS4 := hS3.sl_made (e := 156) (size := 2) (n := 1) (cap := 1) (cur := #[.int .i64 (s : Nat), .slice aob n capb]) (xs := [.int .i64 (s : Nat), .slice aob n capb]) (by omega) (by decide) rfl (by simp) (fun j u hu => by simpa using hu)
                  have hsrc := SlR.src (P := Try.prog) hS4.sl_read Try.underlying120 (by simp [Value.oneCell'])
                  have hS5 := Sat.perm (As := [_, _, _, _]) hS4 [1, 2, 3] [_, _, _] rfl (by simp)
                  have Hsrc := Lib.hid hsrc
                  clear hsrc hS4
                  go_wp2_with (at_builtin; refine wpList_append_sat _ rfl _ _ 120 120 rfl 156 i0 (.agg #[.int .i64 0, .slice none 0 0]) 2 32 Try.underlying120 hi hz0 hz1 hz2 rfl (by decide) T.length _ _ _ rfl hS5 1 _ _ rfl Hsrc.out ?_ ?_ ?_)
                  · unfold maxLen; omega
                  · omega
                  · intro v' w' hS6
                    go_wp2
                    go_roundw
                    case rel =>
                      refine ⟨s + 1, by omega, by go_num, T ++ [(s, .slice aob n capb)], ⟨3, 1, n, .slice aob n capb, (bitsI (wbits L s)).map intV⟩ :: P, c, n, ?_, by simp; omega, ?_, by rfl, rfl, hnc, by omega, .inr ⟨by simp, hn1, ?_⟩, ?_⟩
                      · unfold Hid; rw [List.map_append]; exact HTd.out
                      · unfold Hid
                        intro y hy
                        rcases List.mem_append.1 hy with hy | hy
                        · exact List.mem_cons_of_mem _ (HTP.out y hy)
                        · simp only [List.mem_singleton] at hy
                          subst hy
                          unfold entW
                          simp only [Hw1.out]
                          exact List.mem_cons_self
                      · unfold Hid; rw [Nat.sub_self, Nat.pow_zero, Nat.mul_one, nextC_succ, if_pos HLs.out, ← Hxc.out]
                      · rw [List.length_append, wordC_append]
                        exact (Sat.pool_add (Sat.perm (As := [_, _, _]) hS6 [1, 2, 0] [_, _, _] rfl (by simp))).swap
                    case measure => simp [intOf]; omega
                · obtain ⟨q, rfl⟩ : ∃ q, m = q + 1 := ⟨m - 1, by omega⟩
                  have e : ((q + 1 : Nat) : Int) - 1 = (q : Int) := by omega
                  rw [e]
                  have hd0 : decide ((0 : Int) ≤ (q : Int)) = true := decide_eq_true (by omega)
                  have hbv := bit_i64 c q (by omega)
                  have hA3 := hS2.sl_made (e := 3) (size := 1) (n := 1) (cap := 1) (cur := #[.int .i64 ((c.testBit q).toNat : Nat)]) (xs := [.int .i64 ((c.testBit q).toNat : Nat)]) (by omega) (by decide) rfl (by simp) (fun j u hu => by simpa using hu)
                  have hsrc := SlR.src (P := Try.prog) hA3.sl_read Try.underlying28 (by simp [Value.oneCell'])
                  have hA4 := Sat.perm (As := [_, _, _, _, _]) hA3 [2, 1, 3, 4] [_, _, _, _] rfl (by simp)
                  have hbl : (bitsI ((wbits L s).take (n - q))).map intV = (bitsI ((wbits L s).take (n - (q + 1)))).map intV ++ [.int .i64 ((c.testBit q).toNat : Nat)] := by
                    have e1 : n - q = n - (q + 1) + 1 := by omega
                    have hlt3 : n - (q + 1) < (wbits L s).length := by rw [Hw1.out]; omega
                    have h3 := Hbit.out (n - (q + 1)) (by omega)
                    rw [List.getElem?_eq_getElem hlt3, Option.some.injEq, Hcode.out, ← Hxc.out, show n - 1 - (n - (q + 1)) = q by omega] at h3
                    rw [e1, List.take_succ_eq_append_getElem hlt3, h3]
                    simp [bitsI, bitI, intV]
                  have Hbl := Lib.hid hbl
                  have Hsrc := Lib.hid hsrc
                  clear e hA3 hbl hsrc
                  go_wp2_with (at_builtin; refine wpList_append_sat _ rfl _ _ 28 28 rfl 3 i1 (.int .i64 0) 1 8 Try.underlying28 hi1 hy0 hy1 hy2 rfl (by decide) (n - (q + 1)) _ _ _ rfl hA4 1 _ _ rfl Hsrc.out ?_ ?_ ?_)
                  · unfold maxLen; omega
                  · omega
                  · intro v' w' hS6
                    obtain ⟨F6, ao6, cap6, rfl, -, -, -, -⟩ := hS6.first
                    have hbk2 := (hS6.at_ 1 _ rfl).choose_spec.2
                    have p0 : w'.cell? ⟨wb, 0, none⟩ = some (.int .i64 (s : Nat)) := by rw [cell_of_row w' wb 0 _ _ _ hbk2]; rfl
                    have p1 : w'.cell? ⟨wb, 1, none⟩ = some (.slice aob (n - (q + 1)) capb) := by rw [cell_of_row w' wb 1 _ _ _ hbk2]; rfl
                    have g0 := frozen_of_row w' wb 0 _ _ hbk2
                    have g1 := frozen_of_row w' wb 1 _ _ hbk2
                    have hS7 := Sat.setCell (i := 1) hS6.swap (.slice ao6 (n - (q + 1) + 1) cap6)
                    go_wp2
                    go_roundw
                    case rel =>
                      refine ⟨q, .slice ao6 (n - (q + 1) + 1) cap6, by omega, rfl, ?_⟩
                      rw [Hbl.out, show n - q = n - (q + 1) + 1 by omega]
                      exact hS7
                    case measure => simp [intOf] <;> omega
            · have d1 : decide (0 < T.length) = true := decide_eq_true h0
              have hsh := shl_code c n a x (by rw [Hxc.out]; exact hz.out) hnc
              have Hsh := Lib.hid hsh
              clear hsh
              go_wp2
              rw [Hsh.out]
              have hA := hS1.alloc (.cells #[.int .i64 (s : Nat), .slice none 0 0] 156)
              have hC := Sat.swap (hA.sl_nil 3 1 none)
              generalize (wr.alloc (.cells #[.int .i64 (s : Nat), .slice none 0 0] 156)) = W at hC ⊢
              generalize wr.heap.size = wb at hC ⊢
              clear hA hS1 hSr hcs
              go_loopw [10] (fun i wq => ∃ (m : Nat) (bv : Value), m ≤ n ∧ i = .int .i64 ((m : Int) - 1) ∧ Sat wq (blk wb (.cells #[.int .i64 (s : Nat), bv] 156 (0, 0)) :: sl 3 1 (n - m) bv ((bitsI ((wbits L s).take (n - m))).map intV) :: sl 156 2 T.length (.slice ao3 T.length cap3) (wordC T) :: pool P :: Rs)) (fun i _ => (intOf i + 1).toNat)
              case atStart => exact ⟨n, .slice none 0 0, by omega, rfl, by simpa [bitsI] using hC⟩
              case round =>
                obtain ⟨m, bv, hm, rfl, hS2⟩ := hrel
                have hbk := (hS2.at_ 0 _ rfl).choose_spec.2
                obtain ⟨Fb, aob, capb, rfl, -, -, -, -⟩ := hS2.at_ 1 _ rfl
                have q0 : wr.cell? ⟨wb, 0, none⟩ = some (.int .i64 (s : Nat)) := by rw [cell_of_row wr wb 0 _ _ _ hbk]; rfl
                have q1 : wr.cell? ⟨wb, 1, none⟩ = some (.slice aob (n - m) capb) := by rw [cell_of_row wr wb 1 _ _ _ hbk]; rfl
                have f0 := frozen_of_row wr wb 0 _ _ hbk
                have f1 := frozen_of_row wr wb 1 _ _ hbk
                rcases Nat.eq_zero_or_pos m with h0 | h0
                · subst h0
                  rw [Nat.sub_zero] at q1 hS2
                  rw [List.take_of_length_le (by rw [Hw1.out]; omega)] at hS2
                  have hS3 := Sat.perm (As := [_, _, _, _]) hS2 [2, 1, 3] [_, _, _] rfl (by simp)
                  have hS4 := hS3.sl_made (e := 156) (size := 2) (n := 1) (cap := 1) (cur := #[.int .i64 (s : Nat), .slice aob n capb]) (xs := [.int .i64 (s : Nat), .slice aob n capb]) (by omega) (by decide) rfl (by simp) (fun j u hu => by simpa using hu)
                  have hsrc := SlR.src (P := Try.prog) hS4.sl_read Try.underlying120 (by simp [Value.oneCell'])
                  have hS5 := Sat.perm (As := [_, _, _, _]) hS4 [1, 2, 3] [_, _, _] rfl (by simp)
                  have Hsrc := Lib.hid hsrc
                  clear hsrc hS4
                  go_wp2_with (at_builtin; refine wpList_append_sat _ rfl _ _ 120 120 rfl 156 i0 (.agg #[.int .i64 0, .slice none 0 0]) 2 32 Try.underlying120 hi hz0 hz1 hz2 rfl (by decide) T.length _ _ _ rfl hS5 1 _ _ rfl Hsrc.out ?_ ?_ ?_)
                  · unfold maxLen; omega
                  · omega
                  · intro v' w' hS6
                    go_wp2
                    go_roundw
                    case rel =>
                      refine ⟨s + 1, by omega, by go_num, T ++ [(s, .slice aob n capb)], ⟨3, 1, n, .slice aob n capb, (bitsI (wbits L s)).map intV⟩ :: P, x, n, ?_, by simp; omega, ?_, rfl, rfl, hnc, by omega, .inr ⟨by simp, hn1, ?_⟩, ?_⟩
                      · unfold Hid; rw [List.map_append]; exact HTd.out
                      · unfold Hid
                        intro y hy
                        rcases List.mem_append.1 hy with hy | hy
                        · exact List.mem_cons_of_mem _ (HTP.out y hy)
                        · simp only [List.mem_singleton] at hy
                          subst hy
                          unfold entW
                          simp only [Hw1.out]
                          exact List.mem_cons_self
                      · unfold Hid; rw [Nat.sub_self, Nat.pow_zero, Nat.mul_one, nextC_succ, if_pos HLs.out, ← Hxc.out]
                      · rw [List.length_append, wordC_append]
                        exact (Sat.pool_add (Sat.perm (As := [_, _, _]) hS6 [1, 2, 0] [_, _, _] rfl (by simp))).swap
                    case measure => simp [intOf]; omega
                · obtain ⟨q, rfl⟩ : ∃ q, m = q + 1 := ⟨m - 1, by omega⟩
                  have e : ((q + 1 : Nat) : Int) - 1 = (q : Int) := by omega
                  rw [e]
                  have hd0 : decide ((0 : Int) ≤ (q : Int)) = true := decide_eq_true (by omega)
                  have hbv := bit_i64 x q (by omega)
                  have hA3 := hS2.sl_made (e := 3) (size := 1) (n := 1) (cap := 1) (cur := #[.int .i64 ((x.testBit q).toNat : Nat)]) (xs := [.int .i64 ((x.testBit q).toNat : Nat)]) (by omega) (by decide) rfl (by simp) (fun j u hu => by simpa using hu)
                  have hsrc := SlR.src (P := Try.prog) hA3.sl_read Try.underlying28 (by simp [Value.oneCell'])
                  have hA4 := Sat.perm (As := [_, _, _, _, _]) hA3 [2, 1, 3, 4] [_, _, _, _] rfl (by simp)
                  have hbl : (bitsI ((wbits L s).take (n - q))).map intV = (bitsI ((wbits L s).take (n - (q + 1)))).map intV ++ [.int .i64 ((x.testBit q).toNat : Nat)] := by
                    have e1 : n - q = n - (q + 1) + 1 := by omega
                    have hlt3 : n - (q + 1) < (wbits L s).length := by rw [Hw1.out]; omega
                    have h3 := Hbit.out (n - (q + 1)) (by omega)
                    rw [List.getElem?_eq_getElem hlt3, Option.some.injEq, Hcode.out, ← Hxc.out, show n - 1 - (n - (q + 1)) = q by omega] at h3
                    rw [e1, List.take_succ_eq_append_getElem hlt3, h3]
                    simp [bitsI, bitI, intV]
                  have Hbl := Lib.hid hbl
                  have Hsrc := Lib.hid hsrc
                  clear e hA3 hbl hsrc
                  go_wp2_with (at_builtin; refine wpList_append_sat _ rfl _ _ 28 28 rfl 3 i1 (.int .i64 0) 1 8 Try.underlying28 hi1 hy0 hy1 hy2 rfl (by decide) (n - (q + 1)) _ _ _ rfl hA4 1 _ _ rfl Hsrc.out ?_ ?_ ?_)
                  · unfold maxLen; omega
                  · omega
                  · intro v' w' hS6
                    obtain ⟨F6, ao6, cap6, rfl, -, -, -, -⟩ := hS6.first
                    have hbk2 := (hS6.at_ 1 _ rfl).choose_spec.2
                    have p0 : w'.cell? ⟨wb, 0, none⟩ = some (.int .i64 (s : Nat)) := by rw [cell_of_row w' wb 0 _ _ _ hbk2]; rfl
                    have p1 : w'.cell? ⟨wb, 1, none⟩ = some (.slice aob (n - (q + 1)) capb) := by rw [cell_of_row w' wb 1 _ _ _ hbk2]; rfl
                    have g0 := frozen_of_row w' wb 0 _ _ hbk2
                    have g1 := frozen_of_row w' wb 1 _ _ hbk2
                    have hS7 := Sat.setCell (i := 1) hS6.swap (.slice ao6 (n - (q + 1) + 1) cap6)
                    go_wp2
                    go_roundw
                    case rel =>
                      refine ⟨q, .slice ao6 (n - (q + 1) + 1) cap6, by omega, rfl, ?_⟩
                      rw [Hbl.out, show n - q = n - (q + 1) + 1 by omega]
                      exact hS7
                    case measure => simp [intOf] <;> omega
          · have hne : (((L[s] : Nat) : Int) != (n : Int)) = true := by simp; omega
            have hLs : ¬ L[s]? = some n := by rw [List.getElem?_eq_getElem hlt]; simpa using hhit
            have Hh := Lib.hid hLs
            have Hcase := Lib.hid hcase
            clear hhit hLs hcase
            go_wp2
            go_roundw
            case rel =>
              refine ⟨s + 1, by omega, by go_num, T, P, c, a, ?_, by omega, HTP, rfl, rfl, hc, ha, ?_, hS1⟩
              · unfold Hid; rw [symsOf_succ, if_neg Hh.out]; exact HT.out
              · rw [nextC_succ, if_neg Hh.out, Nat.add_zero]; exact Hcase.out
            case measure => simp [intOf]; omega
        · obtain rfl : s = L.length := by omega
          have hd2 : decide (L.length < L.length) = false := by simp
          have Hcase := Lib.hid hcase
          clear hcase
          go_wp2
          go_roundw
          case rel =>
            refine ⟨n + 1, by omega, by omega, by go_num, T, P, c, a, ?_, by omega, HTP, rfl, rfl, hc, by omega, ?_, hS1⟩
            · unfold Hid
              rw [HT.out]
              obtain ⟨m, rfl⟩ : ∃ m, n = m + 1 := ⟨n - 1, by omega⟩
              rfl
            · rw [nextC_up L n hn1]
              rcases Hcase.out with ⟨e1, e0, e2⟩ | ⟨e1, e2, e3⟩
              · exact .inl ⟨e1, e0, by unfold Hid; rw [e2.out]⟩
              · refine .inr ⟨e1, e2, ?_⟩
                unfold Hid
                rw [← e3.out, show n + 1 - a = n - a + 1 by omega, Nat.pow_succ, ← Nat.mul_assoc]
                omega
          case measure => simp [intOf]; omega
    · obtain rfl : n = 16 := by omega
      have hd : decide (16 ≤ 15) = false := by simp
      obtain ⟨T, P, c, a, HT, hTl, HTP, rfl, rfl, hc, ha, hcase, hS1⟩ := hrel2
      have Hcase := Lib.hid hcase
      clear hcase
      go_wp2
      go_ret
      exact ⟨_, T, P, rfl, HT.out, HTP.out, hS1⟩

end Go.Proofs.Ytdpocnkeokplpaa

namespace Go.Proofs.Ytdpocnkeokplpaa
open Go.RowKit Go.Hal
set_option linter.unusedVariables false
set_option linter.unusedSimpArgs false

theorem rank_take (L : List Nat) (n s : Nat) (hs : s ≤ L.length) : rank L n s = (L.take s).count n := by
  induction s with
  | zero => simp [rank, symsOf]
  | succ s ih =>
    rw [rank_succ, ih (by omega), List.take_succ_eq_append_getElem (by omega), List.count_append, List.count_singleton, List.getElem?_eq_getElem (by omega)]
    congr 1
    by_cases h : L[s] = n <;> simp [h]
theorem rank_all (L : List Nat) (n : Nat) : rank L n L.length = L.count n := by rw [rank_take L n L.length (Nat.le_refl _), List.take_length]
def rmK (K : Nat) (L : List Nat) : Nat := (L.map fun n => if 1 ≤ n ∧ n ≤ K then 2 ^ (K - n) else 0).sum
theorem rmK_succ (K : Nat) (L : List Nat) : rmK (K + 1) L = 2 * rmK K L + L.count (K + 1) := by
  induction L with
  | nil => simp [rmK]
  | cons n r ih =>
    simp only [rmK, List.map_cons, List.sum_cons, List.count_cons] at *
    rw [ih]
    by_cases h1 : 1 ≤ n ∧ n ≤ K
    · rw [if_pos h1, if_pos (by omega), show K + 1 - n = K - n + 1 by omega, Nat.pow_succ]
      have : ¬ (n == K + 1) = true := by simp; omega
      rw [if_neg this]; omega
    · rw [if_neg h1]
      by_cases h2 : n = K + 1
      · subst h2; simp; omega
      · rw [if_neg (by omega)]
        have : ¬ (n == K + 1) = true := by simpa using h2
        rw [if_neg this]; omega
theorem ends_rm (L : List Nat) (K : Nat) : ends L K = rmK K L := by
  induction K with
  | zero =>
    simp only [ends, rmK]
    induction L with
    | nil => rfl
    | cons n r ih => simp only [List.map_cons, List.sum_cons, ← ih]; rw [if_neg (by omega)]
  | succ K ih => simp only [ends]; rw [rmK_succ, ih, rank_all]
theorem rm_rmK (L : List Nat) (hx : ∀ x ∈ L, x ≤ 15) : rmK 15 L = rm L := by
  induction L with
  | nil => rfl
  | cons n r ih =>
    have h1 := hx n (by simp)
    simp only [rmK, rm, List.map_cons, List.sum_cons] at *
    rw [ih (fun x h => hx x (by simp [h]))]
    congr 1
    by_cases h : 0 < n
    · rw [if_pos h, if_pos ⟨h, h1⟩]
    · rw [if_neg h, if_neg (by omega)]
theorem ord_length (L : List Nat) (K : Nat) : (ord L K).length = (L.filter (fun n => decide (1 ≤ n ∧ n ≤ K))).length := by
  induction K with
  | zero =>
    simp only [ord, List.length_nil]
    symm
    rw [List.length_eq_zero_iff, List.filter_eq_nil_iff]
    intro a _; simp; omega
  | succ K ih =>
    simp only [ord, List.length_append]
    rw [ih, show (symsOf L (K + 1) L.length).length = rank L (K + 1) L.length from rfl, rank_all]
    clear ih
    induction L with
    | nil => rfl
    | cons n r ih =>
      rw [List.filter_cons, List.filter_cons, List.count_cons]
      by_cases h1 : 1 ≤ n ∧ n ≤ K
      · have h2 : 1 ≤ n ∧ n ≤ K + 1 := by omega
        have h3 : ¬ (n == K + 1) = true := by simp; omega
        rw [if_pos (decide_eq_true h1), if_pos (decide_eq_true h2), if_neg h3, List.length_cons, List.length_cons]
        omega
      · by_cases h4 : n = K + 1
        · have h2 : 1 ≤ n ∧ n ≤ K + 1 := by omega
          have h3 : (n == K + 1) = true := by simpa using h4
          have g1 : ¬ decide (1 ≤ n ∧ n ≤ K) = true := by rw [decide_eq_true_eq]; exact h1
          rw [if_neg g1, if_pos (decide_eq_true h2), if_pos h3, List.length_cons]
          omega
        · have h2 : ¬ (1 ≤ n ∧ n ≤ K + 1) := by omega
          have h3 : ¬ (n == K + 1) = true := by simpa using h4
          have g1 : ¬ decide (1 ≤ n ∧ n ≤ K) = true := by rw [decide_eq_true_eq]; exact h1
          have g2 : ¬ decide (1 ≤ n ∧ n ≤ K + 1) = true := by rw [decide_eq_true_eq]; exact h2
          rw [if_neg g1, if_neg g2, if_neg h3]
          omega
theorem ord_ws (L : List Nat) (hx : ∀ x ∈ L, x ≤ 15) : (ord L 15).length = ws L := by
  rw [ord_length]
  unfold ws
  congr 1
  refine List.filter_congr fun n hn => ?_
  have := hx n hn
  by_cases h : 0 < n <;> simp [h] <;> omega

theorem fits_of_room {L : List Nat} (hx : ∀ x ∈ L, x ≤ 15) (h : rm L ≤ 32768) : Fits L := by
  refine ⟨hx, fun m hm => ?_⟩
  have h1 := ends_grow L m (15 - m)
  rw [show m + (15 - m) = 15 by omega, ends_rm L 15, rm_rmK L hx] at h1
  have h2 : ends L m * 2 ^ (15 - m) ≤ 2 ^ m * 2 ^ (15 - m) := by
    rw [← Nat.pow_add, show m + (15 - m) = 15 by omega]; omega
  exact Nat.le_of_mul_le_mul_right h2 (Nat.two_pow_pos _)
theorem rm_few (L : List Nat) : rm L ≤ ws L * 16384 := by
  induction L with
  | nil => simp [rm]
  | cons n r ih =>
    simp only [rm, ws, List.map_cons, List.sum_cons, List.filter_cons] at *
    by_cases h : 0 < n
    · have : 2 ^ (15 - n) ≤ 16384 := Nat.le_trans (Nat.pow_le_pow_right (by omega) (show 15 - n ≤ 14 by omega)) (by decide)
      simp only [h, decide_true, if_true, List.length_cons]
      omega
    · simp only [h, decide_false, if_false, Bool.false_eq_true]
      omega
theorem one_ws (L : List Nat) : L.count 1 ≤ ws L := by
  unfold ws
  rw [List.count_eq_length_filter]
  induction L with
  | nil => simp
  | cons n r ih =>
    simp only [List.filter_cons]
    by_cases h : n = 1
    · subst h; simp; simpa using ih
    · have h3 : ¬ (n == 1) = true := by simpa using h
      simp only [h3, if_false, Bool.false_eq_true]
      by_cases h0 : 0 < n
      · simp only [h0, decide_true, if_true, List.length_cons]; omega
      · simp only [h0, decide_false, if_false, Bool.false_eq_true]; exact ih
theorem D1_ws {L : List Nat} (hf : Fits L) : (D1of L (ord L 15)).length = ws L := by
  rw [D1_length L _ (ord_nodup L 15) (fun s hs t ht h => wd_inj hf ht hs h), ord_ws L hf.1]

theorem okL_fits {L : List Nat} (hx : ∀ x ∈ L, x ≤ 15) (h : okL L) : Fits L := ⟨hx, h.1⟩
theorem okL_iff {L : List Nat} (hx : ∀ x ∈ L, x ≤ 15) : okL L ↔ checkL L = 0 := by
  have hc : checkL L = 0 ↔ (rm L = 32768 ∨ ws L = 0 ∨ ws L = 1 ∧ L.count 1 = 1) := by
    unfold checkL; split <;> simp_all
  rw [hc]
  constructor
  · intro h
    have hf := okL_fits hx h
    rcases h.2 with h2 | h2 | ⟨h2, h3⟩
    · left; rw [ends_rm, rm_rmK L hx] at h2; exact h2
    · right; left; rw [← D1_ws hf]; exact h2
    · right; right
      rw [D1_ws hf] at h2
      have h4 := one_ws L
      have h5 : 0 < L.count 1 := List.count_pos_iff.2 h3
      omega
  · intro h
    have hr : rm L ≤ 32768 := by
      rcases h with h | h | h
      · omega
      · have := rm_few L; rw [h] at this; omega
      · have := rm_few L; rw [h.1] at this; omega
    have hf := fits_of_room hx hr
    refine ⟨hf.2, ?_⟩
    rcases h with h | h | h
    · left; rw [ends_rm, rm_rmK L hx]; exact h
    · right; left; rw [D1_ws hf]; exact h
    · right; right; rw [D1_ws hf]; exact ⟨by omega, List.count_pos_iff.1 (by omega)⟩

end Go.Proofs.Ytdpocnkeokplpaa

namespace Go.Proofs.Ytdpocnkeokplpaa
open Go.RowKit Go.Hal
set_option linter.unusedVariables false

theorem row_read {k : IntKind} {w : World} {a : Option Addr} {len cap : Nat} {zs : List Int} (e : TypeId)
    (h : (a = none ∧ len = 0 ∧ cap = 0 ∧ zs = []) ∨ ∃ x, a = some x ∧ len ≤ cap ∧ cap ≤ maxLen ∧ zs.length = cap ∧ (∀ i, i < zs.length → w.cell? (x.add i) = some (.int k (zs.getD i 0))) ∧ ∀ n ∈ zs, (Lit.int k n).wf = true) :
    (zs.take len).length = len ∧ SlR w e 1 len (.slice a len cap) ((zs.take len).map (Value.int k)) := by
  rcases h with ⟨rfl, rfl, rfl, rfl⟩ | ⟨x, rfl, h1, h2, h3, h4, -⟩
  · exact ⟨rfl, SlR.nil none 0 (by unfold maxLen; omega)⟩
  · have hl : (zs.take len).length = len := by rw [List.length_take]; omega
    refine ⟨hl, _, cap, rfl, h1, h2, by simpa using hl, fun hn => ?_⟩
    obtain ⟨b, o, sp⟩ := x
    have h0 := h4 0 (by omega)
    have hsp : sp = none := by
      cases sp with
      | none => rfl
      | some y =>
        exfalso
        simp [Addr.add, World.cell?] at h0
        split at h0 <;> simp_all
    subst hsp
    have hb : b < w.heap.size := World.block_lt_of_cell? w _ h0
    refine ⟨b, o, rfl, hb, fun j u hu => ?_⟩
    have hj : j < len := by
      have := (List.getElem?_eq_some_iff.1 hu).1
      rw [List.length_map, hl] at this; exact this
    have hj2 := h4 j (by omega)
    have ea : (⟨b, o, none⟩ : Addr).add j = ⟨b, o + j, none⟩ := by unfold Addr.add; split <;> simp_all
    rw [ea] at hj2
    rw [hj2]
    rw [List.getElem?_map, List.getElem?_take, if_pos hj, List.getElem?_eq_getElem (by omega)] at hu
    simp only [Option.map_some, Option.some.injEq] at hu
    rw [← hu]
    simp [List.getD_eq_getElem?_getD, List.getElem?_eq_getElem (show j < zs.length by omega)]

theorem ints_row {w : World} {a : Option Addr} {len cap : Nat} {zs : List Int}
    (h : (a = none ∧ len = 0 ∧ cap = 0 ∧ zs = []) ∨ ∃ x, a = some x ∧ len ≤ cap ∧ cap ≤ maxLen ∧ zs.length = cap ∧ (∀ i, i < zs.length → w.cell? (x.add i) = some (.int .i64 (zs.getD i 0))) ∧ ∀ n ∈ zs, (Lit.int .i64 n).wf = true) :
    ∀ w', Sat w' [env w] → IntsR w' (.slice a len cap) (zs.take len) := by
  intro w' hS
  obtain ⟨h1, h2⟩ := row_read 3 h
  unfold IntsR
  rw [h1]
  exact h2.below (B := w.heap.size) hS.below

/-- Numbers of a kind without a sign, as Nats. -/
theorem nats_row {k : IntKind} (B : Nat) (hk : ∀ n : Int, (Lit.int k n).wf = true → 0 ≤ n ∧ n < B) {w : World} {a : Option Addr} {len cap : Nat} {zs : List Int} (e : TypeId)
    (h : (a = none ∧ len = 0 ∧ cap = 0 ∧ zs = []) ∨ ∃ x, a = some x ∧ len ≤ cap ∧ cap ≤ maxLen ∧ zs.length = cap ∧ (∀ i, i < zs.length → w.cell? (x.add i) = some (.int k (zs.getD i 0))) ∧ ∀ n ∈ zs, (Lit.int k n).wf = true) :
    ∃ ys : List Nat, ys.length = len ∧ (∀ y ∈ ys, y < B) ∧ ∀ w', Sat w' [env w] → SlR w' e 1 ys.length (.slice a ys.length cap) (ys.map fun y : Nat => Value.int k y) := by
  obtain ⟨h1, h2⟩ := row_read e h
  have hz : ∀ n ∈ zs.take len, 0 ≤ n ∧ n < B := by
    intro n hn
    have hn' := List.mem_of_mem_take hn
    rcases h with ⟨-, -, -, rfl⟩ | ⟨x, -, -, -, -, -, h5⟩
    · simp at hn'
    · exact hk n (h5 n hn')
  refine ⟨(zs.take len).map Int.toNat, by simpa using h1, fun y hy => ?_, fun w' hS => ?_⟩
  · obtain ⟨n, hn, rfl⟩ := List.mem_map.1 hy
    have := hz n hn
    omega
  · rw [List.length_map, h1, List.map_map]
    have e2 : (zs.take len).map ((fun y : Nat => Value.int k y) ∘ Int.toNat) = (zs.take len).map (Value.int k) := by
      refine List.map_congr_left fun n hn => ?_
      simp only [Function.comp]
      rw [Int.toNat_of_nonneg (hz n hn).1]
    rw [e2]
    exact h2.below (B := w.heap.size) hS.below
theorem wf_u16 (n : Int) (h : (Lit.int .u16 n).wf = true) : 0 ≤ n ∧ n < (65536 : Nat) := by
  simp [Lit.wf, IntKind.min, IntKind.max, IntKind.signed, IntKind.bits] at h; omega
theorem wf_u8 (n : Int) (h : (Lit.int .u8 n).wf = true) : 0 ≤ n ∧ n < (256 : Nat) := by
  simp [Lit.wf, IntKind.min, IntKind.max, IntKind.signed, IntKind.bits] at h; omega
theorem wf_i64 (n : Int) (h : (Lit.int .i64 n).wf = true) : -9223372036854775808 ≤ n ∧ n ≤ 9223372036854775807 := by
  simp [Lit.wf, IntKind.min, IntKind.max, IntKind.signed, IntKind.bits] at h; omega

end Go.Proofs.Ytdpocnkeokplpaa

namespace Go.Proofs.Ytdpocnkeokplpaa
open Go.RowKit Go.Hal
set_option linter.unusedVariables false
set_option linter.unusedSimpArgs false

theorem natsV_natL {xs : List Int} (h : ∀ x ∈ xs, 0 ≤ x) : natsV (natL xs) = xs := by
  induction xs with
  | nil => rfl
  | cons x r ih =>
    have h1 := h x (by simp)
    have h2 := ih (fun y hy => h y (by simp [hy]))
    simp only [natsV, natL, List.map_cons] at *
    rw [h2, Int.toNat_of_nonneg h1]
theorem natL_length (xs : List Int) : (natL xs).length = xs.length := by simp [natL]

def NewAny (xs : List Int) (Rs : List Res) (e : Ending) (w' : World) : Prop :=
  (checkI xs = 0 ∧ ∃ c, e = .returned (.tuple #[.pointer (some ⟨c, 0, none⟩), .int .i64 0]) ∧ Sat w' (code c (natL xs) :: Rs)) ∨
  (checkI xs ≠ 0 ∧ e = .returned (.tuple #[.pointer none, .int .i64 (checkI xs)]) ∧ Sat w' Rs)
theorem checkI_ok {xs : List Int} (h : checkI xs = 0) : xs.length ≤ 288 ∧ natsV (natL xs) = xs ∧ (∀ x ∈ natL xs, x ≤ 15) ∧ Fits (natL xs) := by
  unfold checkI at h
  split at h
  · cases h
  · rename_i hb
    unfold badL at hb
    have h0 : ∀ x ∈ xs, 0 ≤ x ∧ x ≤ 15 := fun x hx => by
      have : ¬ (x < 0 ∨ 15 < x) := fun hh => hb (.inr ⟨x, hx, hh⟩)
      omega
    have h15 : ∀ x ∈ natL xs, x ≤ 15 := by
      intro y hy
      obtain ⟨x, hx, rfl⟩ := List.mem_map.1 hy
      have := h0 x hx
      omega
    exact ⟨by have : ¬ 288 < xs.length := fun hh => hb (.inl hh)
              omega, natsV_natL (fun x hx => (h0 x hx).1), h15, okL_fits h15 ((okL_iff h15).2 h)⟩

theorem new_any {w : World} {Rs : List Res} (hS : Sat w Rs) (v : Value) (xs : List Int) (hv : ∀ w', Sat w' Rs → IntsR w' v xs) :
    Calls Try.prog 74 #[v] w (NewAny xs Rs) := by
  by_cases hb : badL xs
  · refine (new_bad hS v xs (hv w hS) hb).mono ?_
    rintro e w' ⟨rfl, rfl⟩
    have hc : checkI xs = 1 := by unfold checkI; rw [if_pos hb]
    exact .inr ⟨by omega, by rw [hc]; rfl, hS⟩
  · have h0 : ∀ x ∈ xs, 0 ≤ x ∧ x ≤ 15 := fun x hx => by
      have : ¬ (x < 0 ∨ 15 < x) := fun hh => hb (.inr ⟨x, hx, hh⟩)
      omega
    have h15 : ∀ x ∈ natL xs, x ≤ 15 := by
      intro y hy
      obtain ⟨x, hx, rfl⟩ := List.mem_map.1 hy
      have := h0 x hx
      omega
    have hn := natsV_natL (fun x hx => (h0 x hx).1)
    have hl : xs.length ≤ 288 := by
      have : ¬ 288 < xs.length := fun hh => hb (.inl hh)
      omega
    have hc : checkI xs = checkL (natL xs) := by unfold checkI; rw [if_neg hb]
    refine (new_good hS v (natL xs) (by rw [hn]; exact hv) (by rw [natL_length]; exact hl) h15).mono ?_
    rintro e w' (⟨h1, c, rfl, h2⟩ | ⟨h1, rfl, h2⟩)
    · exact .inl ⟨by rw [hc]; exact (okL_iff h15).1 h1, c, rfl, h2⟩
    · have hne : checkL (natL xs) ≠ 0 := fun h => h1 ((okL_iff h15).2 h)
      have h5 : checkL (natL xs) = 5 := by
        unfold checkL at hne ⊢
        split
        · rename_i hh; rw [if_pos hh] at hne; exact absurd rfl hne
        · rfl
      exact .inr ⟨by rw [hc]; exact hne, by rw [hc, h5]; rfl, h2⟩

theorem wordC_length (T : List (Nat × Value)) : (wordC T).length = T.length * 2 := by
  induction T with
  | nil => rfl
  | cons k r ih => simp only [wordC, List.flatMap_cons, List.length_append, List.length_cons, List.length_nil] at *; omega
theorem wordC_get {T : List (Nat × Value)} : ∀ {k : Nat} {x : Nat × Value}, T[k]? = some x → (wordC T)[k * 2]? = some (.int .i64 (x.1 : Nat)) ∧ (wordC T)[k * 2 + 1]? = some x.2 := by
  induction T with
  | nil => intro k x h; simp at h
  | cons y r ih =>
    intro k x h
    cases k with
    | zero => simp at h; subst h; simp [wordC]
    | succ k =>
      have := ih (k := k) (x := x) (by simpa using h)
      simp only [wordC, List.flatMap_cons] at *
      rw [show (k + 1) * 2 = k * 2 + 2 by omega, show k * 2 + 2 + 1 = k * 2 + 1 + 2 by omega]
      exact this

/-- A word of a right code. -/
theorem word_ok {w : World} {c : Nat} {xs : List Int} {Rs : List Res} (hS : Sat w (code c (natL xs) :: Rs)) (hc : checkI xs = 0) (s : Nat) (hs : s < xs.length) :
    Calls Try.prog 75 #[.pointer (some ⟨c, 0, none⟩), .int .i64 s] w fun e w' => e = .returned (.tuple #[.int .i64 ((wd (natL xs) s).2 : Nat), .int .i64 ((wd (natL xs) s).1 : Nat)]) ∧ ∃ n, w' = w.drewN n := by
  obtain ⟨h1, h2, h3, h4⟩ := checkI_ok hc
  have := word_code hS (by rw [natL_length]; exact h1) s
  rw [wordOf_at _ h3 s (by rw [natL_length]; exact hs)] at this
  exact this

end Go.Proofs.Ytdpocnkeokplpaa
