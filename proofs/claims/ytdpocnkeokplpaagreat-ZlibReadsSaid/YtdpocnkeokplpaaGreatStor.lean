/- inflate in plain words: stored blocks. -/
import Derived.Test.YtdpocnkeokplpaaGreatQh
namespace Go.Proofs.YtdpocnkeokplpaaGreat
open Go.RowKit Go.Hal
set_option linter.unusedVariables false
set_option linter.unusedSimpArgs false

theorem xor_all (n : Nat) (h : n < 65536) : n ^^^ (65535 - n) = 65535 := by
  refine Nat.eq_of_testBit_eq fun i => ?_
  have h1 := Nat.testBit_two_pow_sub_succ (n := 16) (x := n) h i
  have h2 := Nat.testBit_two_pow_sub_one 16 i
  rw [show (2 ^ 16 - (n + 1) : Nat) = 65535 - n by omega] at h1
  rw [show (2 ^ 16 - 1 : Nat) = 65535 by rfl] at h2
  rw [Nat.testBit_xor, h1, h2]
  by_cases hi : i < 16
  · cases n.testBit i <;> simp [hi]
  · have : n.testBit i = false := Nat.testBit_lt_two_pow (Nat.lt_of_lt_of_le h (Nat.pow_le_pow_right (n := 2) (by omega) (show 16 ≤ i by omega)))
    simp [hi, this]

theorem take_byte (c : UInt8) (l : List Bool) : num ((byteBits c ++ l).take 8) = c.toNat ∧ (byteBits c ++ l).drop 8 = l := by
  have h := byteBits_length c
  constructor
  · rw [List.take_append_of_le_length (by omega), List.take_of_length_le (by omega), num_byteBits]
  · rw [List.drop_append_of_le_length (by omega), List.drop_of_length_le (by omega), List.nil_append]
theorem take_two (a b : UInt8) (l : List Bool) : num ((bitsOf [a, b] ++ l).take 16) = a.toNat + 256 * b.toNat ∧ (bitsOf [a, b] ++ l).drop 16 = l := by
  have h := bitsOf_length [a, b]
  simp only [List.length_cons, List.length_nil] at h
  constructor
  · rw [List.take_append_of_le_length (by omega), List.take_of_length_le (by omega)]
    rw [bitsOf_cons, bitsOf_cons, bitsOf_nil, List.append_nil, num_append, num_byteBits, num_byteBits, byteBits_length]
  · rw [List.drop_append_of_le_length (by omega), List.drop_of_length_le (by omega), List.nil_append]

theorem raw_step {lim : Int} {s : DS} {c : UInt8} {l : List Bool} {k : Nat} (h1 : s.st = 2) (h2 : s.left = k + 1) (h3 : s.bits = byteBits c ++ l) :
    dstep lim s = if lim ≤ (s.hist.length : Int) then .bad s.hist 9 else .go { s with bits := l, hist := s.hist ++ [c], left := k } := by
  have h4 : ¬ s.left = 0 := by omega
  have h5 : ¬ (byteBits c ++ l).length < 8 := by rw [List.length_append, byteBits_length]; omega
  have h6 := take_byte c l
  unfold dstep
  rw [h1]
  simp only [rawD, takeD, tellD, if_neg h4, if_neg h5, h3, h6.1, h6.2, UInt8.ofNat_toNat]
  by_cases hl : lim ≤ (s.hist.length : Int)
  · rw [if_pos hl, if_pos hl]
  · rw [if_neg hl, if_neg hl, h2, Nat.add_sub_cancel]
    cases s
    simp only at h1
    subst h1
    rfl

theorem raw_ok {lim : Int} {r : DRes} : ∀ (t : List UInt8) (m : List Bool) (s : DS), s.st = 2 → s.left = t.length → s.bits = bitsOf t ++ m → (s.hist.length : Int) + t.length ≤ lim →
    Runs lim { s with left := 0, hist := s.hist ++ t, bits := m } r → Runs lim s r
  | [], m, s, h1, h2, h3, h4, h5 => by
    have e : ({ s with left := 0, hist := s.hist ++ [], bits := m } : DS) = s := by
      cases s
      simp only [List.length_nil, bitsOf_nil, List.nil_append] at h2 h3
      simp only [List.append_nil, ← h2, ← h3]
    rw [e] at h5
    exact h5
  | c :: t, m, s, h1, h2, h3, h4, h5 => by
    have hs := raw_step (lim := lim) (c := c) (l := bitsOf t ++ m) h1 h2 (by rw [h3, bitsOf_cons, List.append_assoc])
    simp only [List.length_cons] at h4
    rw [if_neg (by omega)] at hs
    refine .go hs (raw_ok t m _ h1 rfl rfl ?_ ?_)
    · show ((s.hist ++ [c]).length : Int) + _ ≤ _
      rw [List.length_append, List.length_singleton]; omega
    · simp only [List.append_assoc, List.singleton_append]
      exact h5
theorem raw_bad {lim : Int} : ∀ (t : List UInt8) (m : List Bool) (s : DS), s.st = 2 → s.left = t.length → s.bits = bitsOf t ++ m → lim < (s.hist.length : Int) + t.length → (s.hist.length : Int) ≤ lim →
    Runs lim s (.bad ((s.hist ++ t).take lim.toNat) 9)
  | [], m, s, h1, h2, h3, h4, h5 => by simp only [List.length_nil] at h4; omega
  | c :: t, m, s, h1, h2, h3, h4, h5 => by
    have hs := raw_step (lim := lim) (c := c) (l := bitsOf t ++ m) h1 h2 (by rw [h3, bitsOf_cons, List.append_assoc])
    simp only [List.length_cons] at h4
    by_cases hl : lim ≤ (s.hist.length : Int)
    · rw [if_pos hl] at hs
      have e : lim.toNat = s.hist.length := by omega
      rw [e, List.take_left]
      exact .bad hs
    · rw [if_neg hl] at hs
      have h6 := raw_bad (lim := lim) t m { s with bits := bitsOf t ++ m, hist := s.hist ++ [c], left := t.length } h1 rfl rfl (by
        show _ < ((s.hist ++ [c]).length : Int) + _
        rw [List.length_append, List.length_singleton]; omega) (by
        show ((s.hist ++ [c]).length : Int) ≤ _
        rw [List.length_append, List.length_singleton]; omega)
      simp only [List.append_assoc, List.singleton_append] at h6
      exact .go hs h6

/-- The bytes ahead of a stored block. -/
def headS (last : Bool) (n : Nat) : List UInt8 := [if last then 1 else 0, UInt8.ofNat (n % 256), UInt8.ofNat (n / 256 % 256), UInt8.ofNat (255 - n % 256), UInt8.ofNat (255 - n / 256 % 256)]
theorem stored_head {lim : Int} {r : DRes} (last : Bool) (n : Nat) (hn : n < 65536) (m : List Bool) (hm : m.length % 8 = 0) (s : DS) (h1 : s.st = 0) (h2 : s.bits = bitsOf (headS last n) ++ m)
    (h3 : Runs lim { s with st := 2, last := last, left := n, bits := m } r) : Runs lim s r := by
  generalize ha : UInt8.ofNat (n % 256) = a at *
  generalize hb : UInt8.ofNat (n / 256 % 256) = b at *
  generalize hc : UInt8.ofNat (255 - n % 256) = c at *
  generalize hd : UInt8.ofNat (255 - n / 256 % 256) = d at *
  have hA : a.toNat = n % 256 := by rw [← ha, UInt8.toNat_ofNat']; omega
  have hB : b.toNat = n / 256 % 256 := by rw [← hb, UInt8.toNat_ofNat']; omega
  have hC : c.toNat = 255 - n % 256 := by rw [← hc, UInt8.toNat_ofNat']; omega
  have hD : d.toNat = 255 - n / 256 % 256 := by rw [← hd, UInt8.toNat_ofNat']; omega
  have hbits : s.bits = [last, false, false] ++ (List.replicate 5 false ++ (bitsOf [a, b] ++ (bitsOf [c, d] ++ m))) := by
    rw [h2]
    unfold headS
    rw [ha, hb, hc, hd]
    rw [show ([if last then 1 else 0, a, b, c, d] : List UInt8) = [if last then 1 else 0] ++ ([a, b] ++ [c, d]) from rfl, bitsOf_append, bitsOf_append]
    have : bitsOf [if last then 1 else 0] = [last, false, false] ++ List.replicate 5 false := by cases last <;> decide
    rw [this]
    simp only [List.append_assoc]
  generalize hz : bitsOf [a, b] ++ (bitsOf [c, d] ++ m) = z at hbits
  have hzl : z.length = 32 + m.length := by
    rw [← hz]; simp only [List.length_append, bitsOf_length, List.length_cons, List.length_nil]; omega
  -- the head
  have g1 : dstep lim s = .go { s with last := last, st := 1, bits := List.replicate 5 false ++ z } := by
    unfold dstep
    rw [h1]
    have e1 : ¬ s.bits.length < 3 := by rw [hbits]; simp
    have e2 : num (s.bits.take 3) = last.toNat := by rw [hbits]; cases last <;> rfl
    have e3 : s.bits.drop 3 = List.replicate 5 false ++ z := by rw [hbits]; rfl
    simp only [takeD, if_neg e1, e2, e3, headD]
    cases last <;> rfl
  refine .go g1 ?_
  -- the size
  have e1 : ¬ (List.replicate 5 false ++ z).length / 8 < 4 := by rw [List.length_append, List.length_replicate, hzl]; omega
  have e2 : (List.replicate 5 false ++ z).length % 8 = 5 := by rw [List.length_append, List.length_replicate, hzl]; omega
  have e3 : (List.replicate 5 false ++ z).drop 5 = z := by rw [List.drop_append_of_le_length (by simp)]; simp
  have t1 := take_two a b (bitsOf [c, d] ++ m)
  have t2 := take_two c d m
  rw [hz] at t1
  have e4 : ¬ z.length < 16 := by omega
  have e5 : ¬ (bitsOf [c, d] ++ m).length < 16 := by simp
  have e6 : a.toNat + 256 * b.toNat = n := by rw [hA, hB]; omega
  have e7 : c.toNat + 256 * d.toNat = 65535 - n := by rw [hC, hD]; omega
  have g2 : dstep lim { s with last := last, st := 1, bits := List.replicate 5 false ++ z } = .go { s with st := 2, last := last, left := n, bits := m } := by
    unfold dstep
    simp only [if_neg e1, e2, e3, sizeD, takeD, if_neg e4, t1.1, t1.2, if_neg e5, t2.1, t2.2, e6, e7, xor_all n hn, if_true]
  exact .go g2 h3

/-- A stored block. -/
def blockS (last : Bool) (t : List UInt8) : List UInt8 := headS last t.length ++ t
theorem stored_ok {lim : Int} {r : DRes} (last : Bool) (t : List UInt8) (ht : t.length < 65536) (m : List Bool) (hm : m.length % 8 = 0) (s : DS) (h1 : s.st = 0) (h2 : s.bits = bitsOf (blockS last t) ++ m) (h4 : (s.hist.length : Int) + t.length ≤ lim)
    (h3 : Runs lim { s with st := if last then 12 else 0, last := last, left := 0, hist := s.hist ++ t, bits := m } r) : Runs lim s r := by
  refine stored_head last t.length ht (bitsOf t ++ m) (by rw [List.length_append, bitsOf_length]; omega) s h1 (by rw [h2, blockS, bitsOf_append, List.append_assoc]) ?_
  refine raw_ok t m _ rfl rfl rfl h4 ?_
  refine .go (t := { s with st := if last then 12 else 0, last := last, left := 0, hist := s.hist ++ t, bits := m }) ?_ h3
  unfold dstep
  simp only [rawD, if_true, closeD]
  cases last
  · rfl
  · simp only [if_true, hm, List.drop_zero]
theorem stored_bad {lim : Int} (last : Bool) (t : List UInt8) (ht : t.length < 65536) (m : List Bool) (hm : m.length % 8 = 0) (s : DS) (h1 : s.st = 0) (h2 : s.bits = bitsOf (blockS last t) ++ m) (h4 : lim < (s.hist.length : Int) + t.length) (h5 : (s.hist.length : Int) ≤ lim) :
    Runs lim s (.bad ((s.hist ++ t).take lim.toNat) 9) := by
  refine stored_head last t.length ht (bitsOf t ++ m) (by rw [List.length_append, bitsOf_length]; omega) s h1 (by rw [h2, blockS, bitsOf_append, List.append_assoc]) ?_
  exact raw_bad t m _ rfl rfl rfl h4 h5

/-- Texts, one block each. -/
def encS : List (List UInt8) → List UInt8
  | [] => []
  | t :: r => blockS r.isEmpty t ++ encS r
theorem runs_head0 {lim : Int} {s : DS} (h1 : s.st = 0) (h2 : s.bits = []) : Runs lim s (.ok s) := by
  refine .stop ?_
  unfold dstep
  rw [h1]
  simp [takeD, h2]
theorem enc_ok {lim : Int} : ∀ (T : List (List UInt8)) (s : DS), (∀ t ∈ T, t.length < 65536) → s.st = 0 → s.bits = bitsOf (encS T) → (s.hist.length : Int) + T.flatten.length ≤ lim →
    ∃ r, Runs lim s r ∧ r.err = 0 ∧ r.hist = s.hist ++ T.flatten ∧ r.done = !T.isEmpty
  | [], s, hT, h1, h2, h3 => ⟨.ok s, runs_head0 h1 h2, rfl, by show s.hist = _; simp, by show (s.st == 12) = _; rw [h1]; rfl⟩
  | t :: T, s, hT, h1, h2, h3 => by
    have e : s.bits = bitsOf (blockS T.isEmpty t) ++ bitsOf (encS T) := by rw [h2, encS, bitsOf_append]
    have hl : (t :: T).flatten.length = t.length + T.flatten.length := by rw [List.flatten_cons, List.length_append]
    rw [hl] at h3
    cases T with
    | nil =>
      refine ⟨.ok { s with st := 12, last := true, left := 0, hist := s.hist ++ t, bits := [] }, stored_ok true t (hT t (by simp)) [] rfl s h1 e (by simp only [List.flatten_nil, List.length_nil] at h3; omega) (.stop ?_), rfl, ?_, rfl⟩
      · unfold dstep; rfl
      · show s.hist ++ t = _; simp
    | cons t2 T =>
      obtain ⟨r, r1, r2, r3, r4⟩ := enc_ok (lim := lim) (t2 :: T) { s with st := 0, last := false, left := 0, hist := s.hist ++ t, bits := bitsOf (encS (t2 :: T)) } (fun x hx => hT x (List.mem_cons_of_mem _ hx)) rfl rfl (by
        show ((s.hist ++ t).length : Int) + ((t2 :: T).flatten.length : Int) ≤ _
        rw [List.length_append]; omega)
      refine ⟨r, stored_ok false t (hT t (by simp)) _ (bits8 _) s h1 e (by omega) r1, r2, ?_, r4⟩
      rw [r3]
      show (s.hist ++ t) ++ _ = _
      rw [List.append_assoc, List.flatten_cons (l := t)]
theorem enc_bad {lim : Int} : ∀ (T : List (List UInt8)) (s : DS), (∀ t ∈ T, t.length < 65536) → s.st = 0 → s.bits = bitsOf (encS T) → lim < (s.hist.length : Int) + T.flatten.length → (s.hist.length : Int) ≤ lim →
    Runs lim s (.bad ((s.hist ++ T.flatten).take lim.toNat) 9)
  | [], s, hT, h1, h2, h3, h4 => by simp only [List.flatten_nil, List.length_nil] at h3; omega
  | t :: T, s, hT, h1, h2, h3, h4 => by
    have e : s.bits = bitsOf (blockS T.isEmpty t) ++ bitsOf (encS T) := by rw [h2, encS, bitsOf_append]
    have hl : (t :: T).flatten.length = t.length + T.flatten.length := by rw [List.flatten_cons, List.length_append]
    rw [hl] at h3
    by_cases hb : lim < (s.hist.length : Int) + t.length
    · have h5 := stored_bad T.isEmpty t (hT t (by simp)) _ (bits8 _) s h1 e hb h4
      rw [List.flatten_cons, ← List.append_assoc, List.take_append_of_le_length (by rw [List.length_append]; omega)]
      exact h5
    · cases T with
      | nil => simp only [List.flatten_nil, List.length_nil] at h3; omega
      | cons t2 T =>
        have r1 := enc_bad (lim := lim) (t2 :: T) { s with st := 0, last := false, left := 0, hist := s.hist ++ t, bits := bitsOf (encS (t2 :: T)) } (fun x hx => hT x (List.mem_cons_of_mem _ hx)) rfl rfl (by
          show _ < ((s.hist ++ t).length : Int) + ((t2 :: T).flatten.length : Int)
          rw [List.length_append]; omega) (by
          show ((s.hist ++ t).length : Int) ≤ _
          rw [List.length_append]; omega)
        have r2 := stored_ok false t (hT t (by simp)) _ (bits8 _) s h1 e (by omega) r1
        rw [List.flatten_cons, ← List.append_assoc]
        exact r2
theorem tells_enc {lim : Int} {T : List (List UInt8)} {r : DRes} (hT : ∀ t ∈ T, t.length < 65536) (hl : (T.flatten.length : Int) ≤ lim) (h : Tells lim (encS T) r) : r.err = 0 ∧ r.hist = T.flatten ∧ r.done = !T.isEmpty := by
  obtain ⟨q, q1, q2⟩ := enc_ok (lim := lim) T (ds0.more (bitsOf (encS T))) hT rfl rfl (by show ((0 : Nat) : Int) + (T.flatten.length : Int) ≤ _; omega)
  rw [tells_one h q1]
  exact q2
theorem tells_enc_bad {lim : Int} {T : List (List UInt8)} {r : DRes} (hT : ∀ t ∈ T, t.length < 65536) (h0 : 0 ≤ lim) (hl : lim < (T.flatten.length : Int)) (h : Tells lim (encS T) r) : r = .bad (T.flatten.take lim.toNat) 9 :=
  tells_one h (enc_bad (lim := lim) T (ds0.more (bitsOf (encS T))) hT rfl rfl (by show _ < ((0 : Nat) : Int) + (T.flatten.length : Int); omega) h0)

end Go.Proofs.YtdpocnkeokplpaaGreat
