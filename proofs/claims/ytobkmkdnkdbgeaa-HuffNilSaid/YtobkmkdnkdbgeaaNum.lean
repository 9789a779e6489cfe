/- Bits of bytes and numbers of bits: plain laws. -/
namespace Go.Hal
set_option linter.unusedVariables false
set_option linter.unusedSimpArgs false

/-- The bits of a byte, the lowest first. -/
def byteBits (b : UInt8) : List Bool := (List.range 8).map fun k => b.toNat.testBit k
/-- The bits of bytes. -/
def bitsOf (bs : List UInt8) : List Bool := bs.flatMap byteBits
/-- The number of bits, the first the lowest. -/
def num : List Bool → Nat
  | [] => 0
  | b :: r => b.toNat + 2 * num r

@[simp] theorem byteBits_length (b : UInt8) : (byteBits b).length = 8 := by simp [byteBits]
@[simp] theorem bitsOf_length (bs : List UInt8) : (bitsOf bs).length = 8 * bs.length := by
  induction bs with
  | nil => rfl
  | cons b r ih => simp only [bitsOf, List.flatMap_cons, List.length_append, byteBits_length, List.length_cons] at *; omega
@[simp] theorem bitsOf_nil : bitsOf [] = [] := rfl
theorem bitsOf_cons (b : UInt8) (r : List UInt8) : bitsOf (b :: r) = byteBits b ++ bitsOf r := rfl
theorem bitsOf_append (a b : List UInt8) : bitsOf (a ++ b) = bitsOf a ++ bitsOf b := by simp [bitsOf]
theorem byteBits_get (b : UInt8) (k : Nat) (h : k < 8) : (byteBits b)[k]? = some (b.toNat.testBit k) := by simp [byteBits, h]

theorem bitsOf_get (bs : List UInt8) : ∀ k, k < 8 * bs.length → (bitsOf bs)[k]? = (bs[k / 8]?).map (fun b => b.toNat.testBit (k % 8)) := by
  induction bs with
  | nil => intro k h; simp at h
  | cons b r ih =>
    intro k h
    rw [bitsOf_cons]
    by_cases hk : k < 8
    · rw [List.getElem?_append_left (by simpa using hk), byteBits_get _ _ hk, Nat.div_eq_of_lt hk, Nat.mod_eq_of_lt hk]; rfl
    · simp only [List.length_cons] at h
      rw [List.getElem?_append_right (by simp; omega), byteBits_length, ih _ (by omega), show k / 8 = (k - 8) / 8 + 1 by omega, List.getElem?_cons_succ, show (k - 8) % 8 = k % 8 by omega]

theorem bitsOf_drop (bs : List UInt8) (k : Nat) : (bitsOf bs).drop (8 * k) = bitsOf (bs.drop k) := by
  induction bs generalizing k with
  | nil => simp
  | cons b r ih =>
    cases k with
    | zero => simp
    | succ k =>
      rw [bitsOf_cons, List.drop_append, List.drop_of_length_le (by simp; omega), List.nil_append, byteBits_length, show 8 * (k + 1) - 8 = 8 * k by omega, ih]; rfl

theorem bitsOf_take (bs : List UInt8) (k : Nat) : (bitsOf bs).take (8 * k) = bitsOf (bs.take k) := by
  induction bs generalizing k with
  | nil => simp
  | cons b r ih =>
    cases k with
    | zero => simp
    | succ k =>
      rw [bitsOf_cons, List.take_append, List.take_of_length_le (by simp; omega), byteBits_length, show 8 * (k + 1) - 8 = 8 * k by omega, ih, List.take_succ_cons, bitsOf_cons]

theorem num_lt (l : List Bool) : num l < 2 ^ l.length := by
  induction l with
  | nil => simp [num]
  | cons b r ih => simp only [num, List.length_cons, Nat.pow_succ]; cases b <;> simp <;> omega

theorem num_testBit (l : List Bool) : ∀ k, (num l).testBit k = (l[k]?).getD false := by
  induction l with
  | nil => intro k; simp [num]
  | cons b r ih =>
    intro k
    cases k with
    | zero => cases b <;> simp [num, Nat.testBit_zero] <;> omega
    | succ k =>
      rw [Nat.testBit_succ, List.getElem?_cons_succ, ← ih k]
      congr 1
      cases b <;> simp [num] <;> omega

theorem num_eq {n : Nat} {l : List Bool} (h : ∀ k, n.testBit k = (l[k]?).getD false) : n = num l := Nat.eq_of_testBit_eq fun k => by rw [h, num_testBit]

theorem num_byteBits (b : UInt8) : num (byteBits b) = b.toNat := by
  refine (num_eq fun k => ?_).symm
  by_cases hk : k < 8
  · rw [byteBits_get _ _ hk]; rfl
  · rw [List.getElem?_eq_none (by simp; omega)]
    exact Nat.testBit_lt_two_pow (Nat.lt_of_lt_of_le b.toNat_lt (Nat.pow_le_pow_right (n := 2) (by omega) (by omega)))

theorem num_append (a b : List Bool) : num (a ++ b) = num a + 2 ^ a.length * num b := by
  induction a with
  | nil => simp [num]
  | cons x r ih => simp only [List.cons_append, num, ih, List.length_cons, Nat.pow_succ]; rw [Nat.mul_add, ← Nat.mul_assoc 2, Nat.mul_comm 2 (2 ^ r.length)]; omega

theorem num_take_lt (l : List Bool) (n m : Nat) (h : n ≤ m) : num (l.take n) < 2 ^ m :=
  Nat.lt_of_lt_of_le (num_lt _) (Nat.pow_le_pow_right (by omega) (by simp; omega))

theorem num_take (l : List Bool) (n : Nat) : num (l.take n) = num l % 2 ^ n := by
  refine (num_eq fun k => ?_).symm
  rw [Nat.testBit_mod_two_pow, num_testBit, List.getElem?_take]
  by_cases h : k < n <;> simp [h]

theorem num_drop (l : List Bool) (n : Nat) : num (l.drop n) = num l / 2 ^ n := by
  refine (num_eq fun k => ?_).symm
  rw [Nat.testBit_div_two_pow, num_testBit, List.getElem?_drop, Nat.add_comm]

theorem num_or (a b : List Bool) : num a ||| num b * 2 ^ a.length = num (a ++ b) := by
  rw [num_append, Nat.or_comm, Nat.mul_comm (num b), ← Nat.two_pow_add_eq_or_of_lt (num_lt a) (num b), Nat.add_comm]

theorem num_inj : ∀ (a b : List Bool), a.length = b.length → num a = num b → a = b
  | [], [], _, _ => rfl
  | [], _ :: _, h, _ => by simp at h
  | _ :: _, [], h, _ => by simp at h
  | x :: a, y :: b, hl, h => by
    simp only [num] at h
    have : x = y ∧ num a = num b := by cases x <;> cases y <;> simp at * <;> omega
    rw [this.1, num_inj a b (by simpa using hl) this.2]

theorem bitsOf_inj : ∀ (a b : List UInt8), bitsOf a = bitsOf b → a = b
  | [], [], _ => rfl
  | [], y :: b, h => by have := congrArg List.length h; simp at this
  | x :: a, [], h => by have := congrArg List.length h; simp at this
  | x :: a, y :: b, h => by
    rw [bitsOf_cons, bitsOf_cons] at h
    obtain ⟨h1, h2⟩ := List.append_inj h (by simp)
    have h3 : x = y := by
      have := congrArg num h1
      rw [num_byteBits, num_byteBits] at this
      exact UInt8.toNat_inj.1 this
    rw [h3, bitsOf_inj a b h2]

end Go.Hal
