/- Go's integers: and, or, xor, shifts of small numbers, in Nat's words. -/
import Derived.WalkKit
namespace Go.Hal
open Go.RowKit
set_option linter.unusedVariables false
set_option linter.unusedSimpArgs false

theorem vi {k : IntKind} {a b : Int} (h : a = b) : Value.int k a = .int k b := by rw [h]
theorem wraps_i64 (n : Int) (h₀ : 0 ≤ n) (h₁ : n < 2 ^ 63) : IntKind.i64.wrap n = n := by rw [IntKind.wrap_i64]; omega
theorem wraps_u64 (n : Int) (h₀ : 0 ≤ n) (h₁ : n < 2 ^ 64) : IntKind.u64.wrap n = n := by rw [IntKind.wrap_u64]; omega
theorem wraps_u32 (n : Int) (h₀ : 0 ≤ n) (h₁ : n < 2 ^ 32) : IntKind.u32.wrap n = n := by rw [IntKind.wrap_u32']; omega
theorem and_i64 (a b : Nat) (ha : a < 2 ^ 63) (hb : b < 2 ^ 63) : bits .and .i64 (a : Int) (b : Int) = ((a &&& b : Nat) : Int) := (bits_nat .i64 63 (by decide) wraps_i64 a b ha hb).1
theorem or_i64 (a b : Nat) (ha : a < 2 ^ 63) (hb : b < 2 ^ 63) : bits .or .i64 (a : Int) (b : Int) = ((a ||| b : Nat) : Int) := (bits_nat .i64 63 (by decide) wraps_i64 a b ha hb).2
theorem and_u64 (a b : Nat) (ha : a < 2 ^ 64) (hb : b < 2 ^ 64) : bits .and .u64 (a : Int) (b : Int) = ((a &&& b : Nat) : Int) := (bits_nat .u64 64 (by decide) wraps_u64 a b ha hb).1
theorem or_u64 (a b : Nat) (ha : a < 2 ^ 64) (hb : b < 2 ^ 64) : bits .or .u64 (a : Int) (b : Int) = ((a ||| b : Nat) : Int) := (bits_nat .u64 64 (by decide) wraps_u64 a b ha hb).2
theorem xor_i64 (a b : Nat) (ha : a < 2 ^ 63) (hb : b < 2 ^ 63) : bits .xor .i64 (a : Int) (b : Int) = ((a ^^^ b : Nat) : Int) := by
  have hp : (2 : Nat) ^ 63 ≤ 2 ^ 64 := by decide
  have ha' : a % 2 ^ IntKind.i64.bits = a := Nat.mod_eq_of_lt (by show a < 2 ^ 64; omega)
  have hb' : b % 2 ^ IntKind.i64.bits = b := Nat.mod_eq_of_lt (by show b < 2 ^ 64; omega)
  simp only [bits, BitVec.ofInt_natCast, BitVec.toNat_xor, BitVec.toNat_ofNat, ha', hb']
  exact wraps_i64 _ (Int.natCast_nonneg _) (by exact_mod_cast Nat.xor_lt_two_pow ha hb)
theorem mask_i64 (i : Nat) (hi : i ≤ 63) (x : Int) (h₀ : 0 ≤ x) (h₁ : x < 2 ^ 63) : bits .and .i64 x (2 ^ i - 1) = x % 2 ^ i := bits_mask .i64 63 (by decide) wraps_i64 i hi x h₀ h₁
theorem mask_u64 (i : Nat) (hi : i ≤ 64) (x : Int) (h₀ : 0 ≤ x) (h₁ : x < 2 ^ 64) : bits .and .u64 x (2 ^ i - 1) = x % 2 ^ i := bits_mask .u64 64 (by decide) wraps_u64 i hi x h₀ h₁
theorem and7 (x : Int) (h₀ : 0 ≤ x) (h₁ : x < 2 ^ 63) : bits .and .i64 x 7 = x % 8 := mask_i64 3 (by decide) x h₀ h₁
theorem and1 (x : Int) (h₀ : 0 ≤ x) (h₁ : x < 2 ^ 63) : bits .and .i64 x 1 = x % 2 := mask_i64 1 (by decide) x h₀ h₁
theorem and1_u8 (x : Int) (h₀ : 0 ≤ x) (h₁ : x < 2 ^ 8) : bits .and .u8 x 1 = x % 2 := bits_mask .u8 8 (by decide) wraps_u8 1 (by decide) x h₀ h₁
theorem wrap64_id (x : Int) (h₀ : -9223372036854775808 ≤ x) (h₁ : x ≤ 9223372036854775807) : wrap64 x = x := by unfold wrap64; omega
theorem u64_id (x : Int) (h₀ : 0 ≤ x) (h₁ : x ≤ 18446744073709551615) : IntKind.u64.wrap x = x := by rw [IntKind.wrap_u64]; omega

/-- A bit of a number, as Go reads it. -/
theorem testBit_div (b k : Nat) : ((b.testBit k).toNat : Int) = ((b / 2 ^ k % 2 : Nat) : Int) := by
  rw [Nat.testBit_eq_decide_div_mod_eq]
  have := Nat.mod_two_eq_zero_or_one (b / 2 ^ k)
  rcases this with h | h <;> simp [h]

theorem bit_u8 (b : Nat) (hb : b < 256) (x : Int) (k : Nat) (hx : x = k) (hk : k < 2 ^ 60) :
    wrap64 (bits .and .u8 ((b : Int) / 2 ^ min (IntKind.u64.wrap (bits .and .i64 x 7)).toNat 8) 1) = ((b.testBit (k % 8)).toNat : Int) := by
  subst hx
  rw [and7 _ (by omega) (by omega), u64_id _ (by omega) (by omega)]
  have e1 : min ((k : Int) % 8).toNat 8 = k % 8 := by omega
  rw [e1, testBit_div]
  have e2 : ((b : Int) / 2 ^ (k % 8)) = ((b / 2 ^ (k % 8) : Nat) : Int) := by simp
  have h3 : b / 2 ^ (k % 8) ≤ b := Nat.div_le_self _ _
  rw [e2]
  generalize b / 2 ^ (k % 8) = q at *
  rw [and1_u8 _ (by omega) (by omega), wrap64_id _ (by omega) (by omega)]
  omega

theorem or_shl_u64 (W b k : Nat) (hW : W < 2 ^ 64) (hb : b * 2 ^ k < 2 ^ 64) : bits .or .u64 (W : Int) (IntKind.u64.wrap ((b : Int) * 2 ^ k)) = ((W ||| b * 2 ^ k : Nat) : Int) := by
  have e : (b : Int) * 2 ^ k = ((b * 2 ^ k : Nat) : Int) := by simp
  rw [e]
  generalize b * 2 ^ k = x at *
  rw [u64_id _ (by omega) (by omega), or_u64 _ _ hW hb]

theorem or_shl_i64 (W b k : Nat) (hW : W < 2 ^ 63) (hb : b * 2 ^ k < 2 ^ 63) : bits .or .i64 (W : Int) (wrap64 ((b : Int) * 2 ^ k)) = ((W ||| b * 2 ^ k : Nat) : Int) := by
  have e : (b : Int) * 2 ^ k = ((b * 2 ^ k : Nat) : Int) := by simp
  rw [e]
  generalize b * 2 ^ k = x at *
  rw [wrap64_id _ (by omega) (by omega), or_i64 _ _ hW hb]

theorem pow_u64 (n : Nat) (hn : n ≤ 63) : IntKind.u64.wrap (IntKind.u64.wrap ((2 : Int) ^ n) - 1) = ((2 ^ n - 1 : Nat) : Int) := by
  have h1 : 2 ^ n ≤ 2 ^ 63 := Nat.pow_le_pow_right (by omega) hn
  have h0 : 0 < 2 ^ n := Nat.two_pow_pos n
  have e : ((2 : Int) ^ n) = ((2 ^ n : Nat) : Int) := by simp
  rw [e]
  generalize 2 ^ n = x at *
  have e1 : IntKind.u64.wrap (x : Int) = x := u64_id _ (by omega) (by omega)
  rw [e1, u64_id _ (by omega) (by omega)]
  omega

theorem and_pow_u64 (x n : Nat) (hx : x < 2 ^ 63) (hn : n ≤ 63) : bits .and .u64 (x : Int) (IntKind.u64.wrap (IntKind.u64.wrap ((2 : Int) ^ n) - 1)) = ((x % 2 ^ n : Nat) : Int) := by
  have h1 : 2 ^ n ≤ 2 ^ 63 := Nat.pow_le_pow_right (by omega) hn
  have h0 : 0 < 2 ^ n := Nat.two_pow_pos n
  rw [pow_u64 n hn, and_u64 _ _ (by omega) (by omega), Nat.and_two_pow_sub_one_eq_mod]

theorem i64_id (x : Int) (h₀ : -9223372036854775808 ≤ x) (h₁ : x ≤ 9223372036854775807) : IntKind.i64.wrap x = x := by rw [IntKind.wrap_i64]; omega
theorem mask_var (z j : Nat) (hz : z < 2 ^ 62) (hj : j ≤ 62) : bits .and .i64 (z : Int) (IntKind.i64.wrap (IntKind.i64.wrap (2 ^ min (IntKind.u64.wrap (j : Int)).toNat 64) - 1)) = ((z % 2 ^ j : Nat) : Int) := by
  have e : min (IntKind.u64.wrap (j : Int)).toNat 64 = j := by rw [u64_id _ (by omega) (by omega)]; omega
  rw [e]
  have h1 : 2 ^ j ≤ 2 ^ 62 := Nat.pow_le_pow_right (by omega) hj
  have h0 : 0 < 2 ^ j := Nat.two_pow_pos j
  have e2 : ((2 : Int) ^ j) = ((2 ^ j : Nat) : Int) := by simp
  have e3 : IntKind.i64.wrap (IntKind.i64.wrap ((2 : Int) ^ j) - 1) = ((2 ^ j - 1 : Nat) : Int) := by
    rw [e2]
    generalize 2 ^ j = x at *
    have e4 : IntKind.i64.wrap (x : Int) = x := i64_id _ (by omega) (by omega)
    rw [e4, i64_id _ (by omega) (by omega)]
    omega
  rw [e3, and_i64 _ _ (by omega) (by omega), Nat.and_two_pow_sub_one_eq_mod]

theorem div_pow_int (x n : Nat) : (x : Int) / 2 ^ n = ((x / 2 ^ n : Nat) : Int) := by simp

end Go.Hal
