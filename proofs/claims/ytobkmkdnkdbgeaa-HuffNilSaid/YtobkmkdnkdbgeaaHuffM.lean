/- Canonical codes: plain laws: which words there are, no word begins another, what reading comes to. -/
import Derived.Test.YtobkmkdnkdbgeaaNext
namespace Go.Proofs.Ytobkmkdnkdbgeaa
open Go.RowKit Go.Hal
set_option linter.unusedVariables false
set_option linter.unusedSimpArgs false

theorem snoc_ind {α : Type} {p : List α → Prop} (h0 : p []) (h1 : ∀ l x, p l → p (l ++ [x])) : ∀ l, p l := by
  have key : ∀ l : List α, p l.reverse := by
    intro l
    induction l with
    | nil => exact h0
    | cons x r ih => rw [List.reverse_cons]; exact h1 _ _ ih
  intro l
  have := key l.reverse
  rwa [List.reverse_reverse] at this

section maps
variable {K : Type} [DecidableEq K]
theorem has_put (k k' : K) (v : Value) (D : List (K × Value)) : has k (Hal.put k' v D) = if k = k' then some v else has k D := by
  unfold Hal.put
  induction D with
  | nil =>
    simp only [place, has, List.nil_append, List.find?_cons, List.find?_nil]
    by_cases h : k = k' <;> simp [h]
  | cons e r ih =>
    simp only [place]
    by_cases hk : k' = e.1
    · simp only [hk, if_true, List.set_cons_zero]
      simp only [has, List.find?_cons]
      by_cases h : k = e.1 <;> simp [h]
    · simp only [hk, if_false]
      cases hp : place k' r with
      | none =>
        rw [hp] at ih
        simp only [Option.map_none, List.cons_append] at ih ⊢
        simp only [has, List.find?_cons] at ih ⊢
        by_cases h : k = e.1
        · have : ¬ k = k' := fun e' => hk (e'.symm.trans h)
          simp [h, this]
          intro h2; exact absurd h2.symm hk
        · simp only [h, decide_false]
          exact ih
      | some i =>
        rw [hp] at ih
        simp only [Option.map_some, List.set_cons_succ] at ih ⊢
        simp only [has, List.find?_cons] at ih ⊢
        by_cases h : k = e.1
        · simp [h]
          intro h2; exact absurd h2.symm hk
        · simp only [h, decide_false]
          exact ih
theorem put_length (k : K) (v : Value) (D : List (K × Value)) : (Hal.put k v D).length = if has k D = none then D.length + 1 else D.length := by
  unfold Hal.put
  cases h : place k D with
  | none => rw [if_pos (has_none.2 h)]; simp
  | some i => rw [if_neg (fun e => by rw [has_none.1 e] at h; cases h)]; simp
end maps

theorem mem_symsOf (L : List Nat) (n s t : Nat) : t ∈ symsOf L n s ↔ t < s ∧ L[t]? = some n := by simp [symsOf]
theorem symsOf_nodup (L : List Nat) (n s : Nat) : (symsOf L n s).Nodup := (List.filter_sublist (p := fun t => L[t]? == some n)).nodup List.nodup_range
theorem lt_of_get {L : List Nat} {t n : Nat} (h : L[t]? = some n) : t < L.length := (List.getElem?_eq_some_iff.1 h).1
theorem mem_ord (L : List Nat) (k t : Nat) : t ∈ ord L k ↔ ∃ n, 1 ≤ n ∧ n ≤ k ∧ L[t]? = some n := by
  induction k with
  | zero => simp only [ord, List.not_mem_nil, false_iff]; rintro ⟨n, h1, h2, -⟩; omega
  | succ k ih =>
    simp only [ord, List.mem_append, ih, mem_symsOf]
    constructor
    · rintro (⟨n, h1, h2, h3⟩ | ⟨-, h⟩)
      · exact ⟨n, h1, by omega, h3⟩
      · exact ⟨k + 1, by omega, by omega, h⟩
    · rintro ⟨n, h1, h2, h3⟩
      rcases Nat.lt_or_ge k n with h | h
      · obtain rfl : n = k + 1 := by omega
        exact .inr ⟨lt_of_get h3, h3⟩
      · exact .inl ⟨n, h1, h, h3⟩
theorem ord_nodup (L : List Nat) (k : Nat) : (ord L k).Nodup := by
  induction k with
  | zero => simp [ord]
  | succ k ih =>
    simp only [ord]
    rw [List.nodup_append]
    refine ⟨ih, symsOf_nodup _ _ _, fun a ha b hb => ?_⟩
    obtain ⟨n, h1, h2, h3⟩ := (mem_ord L k a).1 ha
    obtain ⟨-, h4⟩ := (mem_symsOf L (k + 1) L.length b).1 hb
    rintro rfl
    rw [h3] at h4
    simp only [Option.some.injEq] at h4
    omega

theorem rank_mono (L : List Nat) (n s t : Nat) (h : s ≤ t) : rank L n s ≤ rank L n t := by
  induction t with
  | zero => obtain rfl : s = 0 := by omega
            exact Nat.le_refl _
  | succ t ih =>
    rcases Nat.lt_or_ge t s with h2 | h2
    · obtain rfl : s = t + 1 := by omega
      exact Nat.le_refl _
    · have := ih h2
      rw [rank_succ]; omega
theorem rank_lt (L : List Nat) (n s t : Nat) (h : s < t) (hs : L[s]? = some n) : rank L n s < rank L n t := by
  have h1 := rank_succ L n s
  rw [if_pos hs] at h1
  have h2 := rank_mono L n (s + 1) t h
  omega
theorem ends_grow (L : List Nat) (m k : Nat) : ends L m * 2 ^ k ≤ ends L (m + k) := by
  induction k with
  | zero => simp
  | succ k ih => rw [← Nat.add_assoc]; simp only [ends, Nat.pow_succ]; rw [← Nat.mul_assoc]; omega

/-- What New asks of lengths, in steps. -/
def Fits (L : List Nat) : Prop := (∀ x ∈ L, x ≤ 15) ∧ ∀ m, m ≤ 15 → ends L m ≤ 2 ^ m
theorem len_le {L : List Nat} (h : Fits L) {t n : Nat} (ht : L[t]? = some n) : n ≤ 15 := h.1 n (List.mem_of_getElem? ht)

theorem code_eq {L : List Nat} {t n : Nat} (ht : L[t]? = some (n + 1)) : codeOf L t = 2 * ends L n + rank L (n + 1) t := by
  unfold codeOf; rw [ht]; simp
theorem code_lt {L : List Nat} {t n : Nat} (ht : L[t]? = some (n + 1)) : codeOf L t < ends L (n + 1) := by
  rw [code_eq ht]
  have := rank_lt L (n + 1) t L.length (lt_of_get ht) ht
  simp only [ends]; omega
theorem code_free {L : List Nat} {s t n m : Nat} (ht : L[t]? = some (n + 1)) (hs : L[s]? = some (m + 1)) (hnm : n ≤ m) (h : codeOf L s / 2 ^ (m - n) = codeOf L t) : s = t := by
  rcases Nat.lt_or_ge n m with hlt | hge
  · exfalso
    have h1 := code_lt ht
    have h2 := ends_grow L (n + 1) (m - n - 1)
    rw [show n + 1 + (m - n - 1) = m by omega] at h2
    have h3 := code_eq hs
    have h4 : ends L (n + 1) * 2 ^ (m - n) ≤ codeOf L s := by
      rw [show m - n = m - n - 1 + 1 by omega, Nat.pow_succ, ← Nat.mul_assoc]; omega
    have h5 : ends L (n + 1) ≤ codeOf L s / 2 ^ (m - n) := (Nat.le_div_iff_mul_le (Nat.two_pow_pos _)).2 h4
    omega
  · obtain rfl : n = m := by omega
    rw [Nat.sub_self, Nat.pow_zero, Nat.div_one, code_eq ht, code_eq hs] at h
    rcases Nat.lt_trichotomy s t with h1 | h1 | h1
    · have := rank_lt L (n + 1) s t h1 hs; omega
    · exact h1
    · have := rank_lt L (n + 1) t s h1 ht; omega

theorem rev_testBit (n v j : Nat) : (rev n v).testBit j = (decide (j < n) && v.testBit (n - 1 - j)) := by
  induction n generalizing j with
  | zero => simp [rev]
  | succ n ih =>
    simp only [rev]
    have hb : v / 2 ^ n % 2 = (v.testBit n).toNat := by
      rw [Nat.testBit_eq_decide_div_mod_eq]
      rcases Nat.mod_two_eq_zero_or_one (v / 2 ^ n) with h | h <;> simp [h]
    rw [hb]
    cases j with
    | zero =>
      rw [Nat.testBit_zero]
      simp only [Nat.zero_lt_succ, decide_true, Bool.true_and, Nat.add_sub_cancel, Nat.sub_zero]
      cases v.testBit n <;> simp [Nat.add_mod]
    | succ j =>
      rw [Nat.testBit_succ]
      have e : (2 * rev n v + (v.testBit n).toNat) / 2 = rev n v := by cases v.testBit n <;> simp <;> omega
      rw [e, ih]
      by_cases h : j < n
      · simp only [h, decide_true, Bool.true_and, show j + 1 < n + 1 by omega, show n + 1 - 1 - (j + 1) = n - 1 - j by omega]
      · simp only [h, decide_false, Bool.false_and, show ¬ j + 1 < n + 1 by omega]
theorem rev_mod (n m v : Nat) (h : n ≤ m) : rev m v % 2 ^ n = rev n (v / 2 ^ (m - n)) := by
  refine Nat.eq_of_testBit_eq fun j => ?_
  rw [Nat.testBit_mod_two_pow, rev_testBit, rev_testBit, Nat.testBit_div_two_pow]
  by_cases hj : j < n
  · simp only [hj, decide_true, Bool.true_and, show j < m by omega, show n - 1 - j + (m - n) = m - 1 - j by omega]
  · simp [hj]
theorem rev_inj (n v w : Nat) (hv : v < 2 ^ n) (hw : w < 2 ^ n) (h : rev n v = rev n w) : v = w := by
  refine Nat.eq_of_testBit_eq fun j => ?_
  by_cases hj : j < n
  · have h1 := congrArg (fun x => x.testBit (n - 1 - j)) h
    simp only [rev_testBit, show n - 1 - j < n by omega, decide_true, Bool.true_and, show n - 1 - (n - 1 - j) = j by omega] at h1
    exact h1
  · rw [Nat.testBit_lt_two_pow (Nat.lt_of_lt_of_le hv (Nat.pow_le_pow_right (by omega) (by omega))), Nat.testBit_lt_two_pow (Nat.lt_of_lt_of_le hw (Nat.pow_le_pow_right (by omega) (by omega)))]

theorem wd_at {L : List Nat} {t n : Nat} (ht : L[t]? = some n) : wd L t = (n, rev n (codeOf L t)) := by unfold wd; simp [ht]
/-- NO WORD BEGINS ANOTHER ONE. -/
theorem wd_free {L : List Nat} (hf : Fits L) {s t n m : Nat} (ht : L[t]? = some n) (hs : L[s]? = some m) (hn : 1 ≤ n) (hnm : n ≤ m) (h : (wd L s).2 % 2 ^ n = (wd L t).2) : s = t := by
  obtain ⟨n, rfl⟩ : ∃ k, n = k + 1 := ⟨n - 1, by omega⟩
  obtain ⟨m, rfl⟩ : ∃ k, m = k + 1 := ⟨m - 1, by omega⟩
  have hm15 := len_le hf hs
  rw [wd_at ht, wd_at hs] at h
  simp only at h
  rw [rev_mod _ _ _ hnm, show m + 1 - (n + 1) = m - n by omega] at h
  have h1 := code_lt ht
  have h2 := code_lt hs
  have h3 := hf.2 (n + 1) (by omega)
  have h4 := hf.2 (m + 1) (by omega)
  refine code_free ht hs (by omega) (rev_inj (n + 1) _ _ ?_ (by omega) h)
  refine (Nat.div_lt_iff_lt_mul (Nat.two_pow_pos _)).2 ?_
  rw [← Nat.pow_add, show n + 1 + (m - n) = m + 1 by omega]
  omega
theorem wd_lt {L : List Nat} (t : Nat) : (wd L t).2 < 2 ^ (wd L t).1 := by unfold wd; exact rev_lt _ _
theorem wd_inj {L : List Nat} (hf : Fits L) {s t : Nat} (ht : t ∈ ord L 15) (hs : s ∈ ord L 15) (h : wd L s = wd L t) : s = t := by
  obtain ⟨n, h1, h2, h3⟩ := (mem_ord _ _ _).1 ht
  obtain ⟨m, h4, h5, h6⟩ := (mem_ord _ _ _).1 hs
  have e : m = n := by
    have := congrArg Prod.fst h
    rw [wd_at h3, wd_at h6] at this
    exact this
  subst e
  refine wd_free hf h3 h6 h1 (Nat.le_refl _) ?_
  rw [h, Nat.mod_eq_of_lt]
  have := wd_lt (L := L) t
  rwa [wd_at h3] at this ⊢

theorem has_D1 (L done : List Nat) (k : Nat × Nat) (v : Value) (h : has k (D1of L done) = some v) : ∃ t ∈ done, wd L t = k ∧ v = .int .i64 (t : Nat) := by
  induction done using snoc_ind with
  | h0 => simp [D1of, has] at h
  | h1 l x ih =>
    rw [D1of_snoc, has_put] at h
    by_cases hk : k = wd L x
    · rw [if_pos hk] at h
      cases h
      exact ⟨x, by simp, hk.symm, rfl⟩
    · rw [if_neg hk] at h
      obtain ⟨t, h1, h2, h3⟩ := ih h
      exact ⟨t, by simp [h1], h2, h3⟩
theorem has_D1_none (L done : List Nat) (k : Nat × Nat) : has k (D1of L done) = none ↔ ∀ t ∈ done, wd L t ≠ k := by
  induction done using snoc_ind with
  | h0 => simp [D1of, has]
  | h1 l x ih =>
    rw [D1of_snoc, has_put]
    by_cases hk : k = wd L x
    · rw [if_pos hk]
      constructor
      · intro h; cases h
      · intro h; exact absurd hk.symm (h x (by simp))
    · rw [if_neg hk, ih]
      constructor
      · intro h t ht
        rcases List.mem_append.1 ht with ht | ht
        · exact h t ht
        · simp only [List.mem_singleton] at ht; subst ht; exact fun e => hk e.symm
      · exact fun h t ht => h t (by simp [ht])
theorem D1_length (L done : List Nat) (hn : done.Nodup) (hi : ∀ s ∈ done, ∀ t ∈ done, wd L s = wd L t → s = t) : (D1of L done).length = done.length := by
  induction done using snoc_ind with
  | h0 => simp [D1of]
  | h1 l x ih =>
    rw [List.nodup_append] at hn
    rw [D1of_snoc, put_length, if_pos, List.length_append, ih hn.1 (fun s hs t ht => hi s (by simp [hs]) t (by simp [ht]))]
    · simp
    · rw [has_D1_none]
      intro t ht e
      have := hi t (by simp [ht]) x (by simp) e
      exact hn.2.2 t ht x (by simp) this
theorem has_begs (w : Nat × Nat) (D : List ((Nat × Nat) × Value)) (n : Nat) (k : Nat × Nat) : has k (begs w D n) = if k.1 < n ∧ k.2 = w.2 % 2 ^ k.1 then some (.bool true) else has k D := by
  induction n with
  | zero => simp [begs]
  | succ n ih =>
    rw [begs_succ, has_put, ih]
    obtain ⟨k1, k2⟩ := k
    by_cases h : (k1, k2) = (n, w.2 % 2 ^ n)
    · simp only [Prod.mk.injEq] at h
      obtain ⟨rfl, rfl⟩ := h
      simp
    · rw [if_neg h]
      simp only [Prod.mk.injEq, not_and] at h
      by_cases h2 : k1 < n ∧ k2 = w.2 % 2 ^ k1
      · rw [if_pos h2, if_pos ⟨by simp only; omega, h2.2⟩]
      · rw [if_neg h2, if_neg]
        rintro ⟨h3, h4⟩
        simp only at h3 h4
        rcases Nat.lt_or_ge k1 n with h5 | h5
        · exact h2 ⟨h5, h4⟩
        · obtain rfl : k1 = n := by omega
          exact h rfl h4
theorem has_D2 (L done : List Nat) (k : Nat × Nat) : has k (D2of L done) = some (.bool true) ∧ (∃ t ∈ done, k.1 < (wd L t).1 ∧ k.2 = (wd L t).2 % 2 ^ k.1) ∨ has k (D2of L done) = none ∧ ¬ ∃ t ∈ done, k.1 < (wd L t).1 ∧ k.2 = (wd L t).2 % 2 ^ k.1 := by
  induction done using snoc_ind with
  | h0 => right; simp [D2of, has]
  | h1 l x ih =>
    rw [D2of_snoc, has_begs]
    by_cases hk : k.1 < (wd L x).1 ∧ k.2 = (wd L x).2 % 2 ^ k.1
    · rw [if_pos hk]; exact .inl ⟨rfl, x, by simp, hk⟩
    · rw [if_neg hk]
      rcases ih with ⟨h1, t, h2, h3⟩ | ⟨h1, h2⟩
      · exact .inl ⟨h1, t, by simp [h2], h3⟩
      · refine .inr ⟨h1, ?_⟩
        rintro ⟨t, h3, h4⟩
        rcases List.mem_append.1 h3 with h3 | h3
        · exact h2 ⟨t, h3, h4⟩
        · simp only [List.mem_singleton] at h3; subst h3; exact hk h4
theorem wsof_get (L done : List Nat) (s : Nat) (hs : s < L.length) : (wsof L done)[s]? = some (if s ∈ done then wd L s else (0, 0)) := by
  induction done using snoc_ind with
  | h0 => simp [wsof, hs]
  | h1 l x ih =>
    rw [wsof_snoc, List.getElem?_set]
    by_cases hx : x = s
    · subst hx
      simp [wsof_length, hs]
    · rw [if_neg hx, ih]
      have hx' : ¬ s = x := fun e => hx e.symm
      simp [hx']
theorem wordOf_at (L : List Nat) (hf : ∀ x ∈ L, x ≤ 15) (s : Nat) (hs : s < L.length) : wordOf L (s : Nat) = wd L s := by
  unfold wordOf
  rw [if_pos (by omega), Int.toNat_natCast, wsof_get _ _ _ hs, Option.getD_some]
  by_cases h : s ∈ ord L 15
  · rw [if_pos h]
  · rw [if_neg h]
    have ht : L[s]? = some L[s] := List.getElem?_eq_getElem hs
    have h0 : L[s] = 0 := by
      rcases Nat.eq_zero_or_pos L[s] with h0 | h0
      · exact h0
      · exact absurd ((mem_ord _ _ _).2 ⟨L[s], h0, hf _ (List.getElem_mem _), ht⟩) h
    rw [h0] at ht
    rw [wd_at ht]
    rfl
theorem wordOf_out (L : List Nat) (s : Int) (h : s < 0 ∨ (L.length : Int) ≤ s) : wordOf L s = (0, 0) := by
  unfold wordOf
  rcases h with h | h
  · rw [if_neg (by omega)]
  · rw [if_pos (by omega), List.getElem?_eq_none (by rw [wsof_length]; omega)]; rfl

/-- Reading a word: symbol, error, bits. -/
def hits (L : List Nat) (l : List Bool) (t : Nat) : Prop := (wd L t).1 ≤ l.length ∧ num (l.take (wd L t).1) = (wd L t).2
instance (L : List Nat) (l : List Bool) (t : Nat) : Decidable (hits L l t) := inferInstanceAs (Decidable (_ ∧ _))
def mayHit (L : List Nat) (l : List Bool) (t : Nat) : Prop := l.length < (wd L t).1 ∧ (wd L t).2 % 2 ^ l.length = num l
instance (L : List Nat) (l : List Bool) (t : Nat) : Decidable (mayHit L l t) := inferInstanceAs (Decidable (_ ∧ _))
def decL (L : List Nat) (l : List Bool) : Nat × Nat × Nat :=
  match (ord L 15).find? (fun t => decide (hits L l t)) with
  | some t => (t, 0, (wd L t).1)
  | none => if l = [] ∨ ∃ t ∈ ord L 15, mayHit L l t then (0, 2, 0) else (0, 6, 0)
theorem hits_one {L : List Nat} (hf : Fits L) {l : List Bool} {s t : Nat} (hs : s ∈ ord L 15) (ht : t ∈ ord L 15) (h1 : hits L l s) (h2 : hits L l t) : s = t := by
  obtain ⟨n, a1, a2, a3⟩ := (mem_ord _ _ _).1 ht
  obtain ⟨m, b1, b2, b3⟩ := (mem_ord _ _ _).1 hs
  unfold hits at h1 h2
  rcases Nat.le_total n m with h | h
  · refine wd_free hf a3 b3 a1 h ?_
    rw [← h1.2, ← h2.2, ← num_take, List.take_take, wd_at a3, wd_at b3]
    simp only
    rw [Nat.min_eq_left h]
  · refine (wd_free hf b3 a3 b1 h ?_).symm
    rw [← h1.2, ← h2.2, ← num_take, List.take_take, wd_at a3, wd_at b3]
    simp only
    rw [Nat.min_eq_left h]
theorem nextFrom_dec {L : List Nat} (hf : Fits L) (l : List Bool) : ∀ f n, f + n = 16 → n ≤ l.length → (∀ t ∈ ord L 15, hits L l t → n ≤ (wd L t).1) →
    nextFrom (D1of L (ord L 15)) (D2of L (ord L 15)) l f n = (.int .i64 ((decL L l).1 : Nat), (decL L l).2.1, (decL L l).2.2) := by
  intro f
  induction f with
  | zero =>
    intro n hn hl hh
    obtain rfl : n = 16 := by omega
    have hno : ∀ t ∈ ord L 15, ¬ hits L l t := by
      intro t ht h
      have h1 := hh t ht h
      obtain ⟨m, a1, a2, a3⟩ := (mem_ord _ _ _).1 ht
      rw [wd_at a3] at h1
      simp only at h1
      omega
    have hmay : ¬ (l = [] ∨ ∃ t ∈ ord L 15, mayHit L l t) := by
      rintro (rfl | ⟨t, ht, h⟩)
      · simp at hl
      · obtain ⟨m, a1, a2, a3⟩ := (mem_ord _ _ _).1 ht
        have := h.1
        rw [wd_at a3] at this
        simp only at this
        omega
    have hfind : (ord L 15).find? (fun t => decide (hits L l t)) = none := by
      rw [List.find?_eq_none]; intro t ht; simpa using hno t ht
    unfold decL
    rw [hfind]
    simp only [nextFrom, hmay, if_false]
    rw [if_neg (by omega)]
    rfl
  | succ f ih =>
    intro n hn hl hh
    simp only [nextFrom]
    cases hD : has (n, num (l.take n)) (D1of L (ord L 15)) with
    | some v =>
      obtain ⟨t, ht, hw, rfl⟩ := has_D1 _ _ _ _ hD
      have hit : hits L l t := by
        unfold hits; rw [hw]; exact ⟨hl, rfl⟩
      have hfind : (ord L 15).find? (fun t => decide (hits L l t)) = some t := by
        cases hfd : (ord L 15).find? (fun t => decide (hits L l t)) with
        | none => rw [List.find?_eq_none] at hfd; exact absurd hit (by simpa using hfd t ht)
        | some s =>
          have h1 := List.mem_of_find?_eq_some hfd
          have h2 := List.find?_some hfd
          rw [hits_one hf h1 ht (by simpa using h2) hit]
      unfold decL
      rw [hfind]
      simp only [hw]
    | none =>
      have hD1 := (has_D1_none _ _ _).1 hD
      have hh1 : ∀ t ∈ ord L 15, hits L l t → n + 1 ≤ (wd L t).1 := by
        intro t ht h
        have h1 := hh t ht h
        rcases Nat.lt_or_ge n (wd L t).1 with h2 | h2
        · exact h2
        · exfalso
          have e : (wd L t).1 = n := by omega
          refine hD1 t ht (Prod.ext e ?_)
          rw [← h.2, e]
      have hpre : ∀ t ∈ ord L 15, n < (wd L t).1 → (hits L l t ∨ mayHit L l t) → (wd L t).2 % 2 ^ n = num (l.take n) := by
        intro t ht h1 h2
        rcases h2 with h2 | h2
        · rw [← h2.2, ← num_take, List.take_take, Nat.min_eq_left (by omega)]
        · rw [num_take, ← h2.2, Nat.mod_mod_of_dvd]
          exact Nat.pow_dvd_pow 2 hl
      rcases has_D2 L (ord L 15) (n, num (l.take n)) with ⟨h1, t, ht, h2, h3⟩ | ⟨h1, h2⟩
      · rw [h1, if_neg (by simp)]
        by_cases hln : l.length ≤ n
        · have e : n = l.length := by omega
          have hfind : (ord L 15).find? (fun t => decide (hits L l t)) = none := by
            rw [List.find?_eq_none]
            intro s hs
            have := hh1 s hs
            simp only [decide_eq_true_eq]
            intro hsx
            have h4 := this hsx
            have h5 := hsx.1
            omega
          unfold decL
          rw [if_pos hln, hfind]
          simp only
          rw [if_pos (.inr ⟨t, ht, by rw [e] at h2; exact h2, by
            simp only at h3
            rw [e, List.take_length] at h3
            exact h3.symm⟩)]
          rfl
        · rw [if_neg hln]
          exact ih (n + 1) (by omega) (by omega) hh1
      · by_cases h0 : 0 < n
        · rw [if_pos ⟨h0, h1⟩]
          have hno : ∀ t ∈ ord L 15, ¬ hits L l t := fun t ht h => h2 ⟨t, ht, hh1 t ht h, (hpre t ht (hh1 t ht h) (.inl h)).symm⟩
          have hfind : (ord L 15).find? (fun t => decide (hits L l t)) = none := by
            rw [List.find?_eq_none]; intro t ht; simpa using hno t ht
          unfold decL
          rw [hfind]
          simp only
          rw [if_neg]
          · rfl
          · rintro (rfl | ⟨t, ht, h⟩)
            · simp at hl; omega
            · have := h.1
              exact h2 ⟨t, ht, by simp only; omega, (hpre t ht (by omega) (.inr h)).symm⟩
        · obtain rfl : n = 0 := by omega
          rw [if_neg (by omega)]
          by_cases hln : l.length ≤ 0
          · obtain rfl : l = [] := List.eq_nil_of_length_eq_zero (by omega)
            have hfind : (ord L 15).find? (fun t => decide (hits L [] t)) = none := by
              rw [List.find?_eq_none]
              intro s hs
              simp only [decide_eq_true_eq]
              intro hsx
              have h4 := hh1 s hs hsx
              have h5 := hsx.1
              simp only [List.length_nil] at h5
              omega
            unfold decL
            rw [hfind]
            simp
          · rw [if_neg hln]
            exact ih 1 (by omega) (by omega) hh1

end Go.Proofs.Ytobkmkdnkdbgeaa
