/- Package octets: fits, Big, Little at bytes that are read. -/
import Derived.Test.YtdpocnkeokplpaaProg
import Derived.Test.YtdpocnkeokplpaaQa
import Derived.Handy
namespace Go.Proofs.Ytdpocnkeokplpaa
open Go.RowKit Go.Hal
set_option linter.unusedVariables false
set_option linter.unusedSimpArgs false

theorem ret2_i {k : IntKind} {a b : Int} {u v : Value} (h : a = b) (h2 : u = v) : Ending.returned (.tuple #[.int k a, u]) = .returned (.tuple #[.int k b, v]) := by rw [h, h2]
def bytV (b : UInt8) : Value := .int .u8 b.toNat
abbrev BytesR (w : World) (v : Value) (bs : List UInt8) : Prop := SlR w 5 1 bs.length v (bs.map bytV)

/-- The byte at a place of a slice that is read. -/
theorem BytesR.cell {w : World} {v : Value} {xs : List UInt8} (h : BytesR w v xs) : ∃ ao cap, v = .slice ao xs.length cap ∧ xs.length ≤ cap ∧ cap ≤ 9223372036854775807 ∧
    ∀ k (hk : k < xs.length), ∃ b o, ao = some ⟨b, o, none⟩ ∧ b < w.heap.size ∧ w.cell? ⟨b, o + k, none⟩ = some (.int .u8 xs[k].toNat) := by
  obtain ⟨ao, cap, rfl, h1, h2, h3, h4⟩ := h
  refine ⟨ao, cap, rfl, h1, by unfold maxLen at h2; omega, fun k hk => ?_⟩
  obtain ⟨b, o, rfl, hb, hc⟩ := h4 (by omega)
  exact ⟨b, o, rfl, hb, hc k _ (by simp [bytV, hk])⟩

theorem fits_ok {w : World} {v : Value} {ao : Option Addr} {len cap at' n : Nat} (h1 : 1 ≤ n) (h4 : n ≤ 4) (hl : len ≤ 9223372036854775807) (ha : at' + n ≤ len) :
    Calls Try.prog 90 #[.slice ao len cap, .int .i64 at', .int .i64 n] w fun e w' => e = .returned (.int .i64 0) ∧ w' = w := by
  have d1 : decide ((n : Int) < 1) = false := decide_eq_false (by omega)
  have d2 : decide ((4 : Int) < n) = false := decide_eq_false (by omega)
  have d3 : decide ((at' : Int) < 0) = false := decide_eq_false (by omega)
  have hw : IntKind.i64.wrap ((len : Int) - (n : Int)) = len - n := by apply wraps_i64 <;> omega
  have d4 : decide ((len : Int) - (n : Int) < (at' : Int)) = false := decide_eq_false (by omega)
  go_enter Try.func90, Try.ntmps90
  go_wp2
  go_ret
  exact ⟨rfl, rfl⟩

theorem fits_short {w : World} {v : Value} {ao : Option Addr} {len cap at' n : Nat} (h1 : 1 ≤ n) (h4 : n ≤ 4) (hl : len ≤ 9223372036854775807) (ha : len < at' + n) (hn : at' ≤ 9223372036854775807) :
    Calls Try.prog 90 #[.slice ao len cap, .int .i64 at', .int .i64 n] w fun e w' => e = .returned (.int .i64 2) ∧ w' = w := by
  have d1 : decide ((n : Int) < 1) = false := decide_eq_false (by omega)
  have d2 : decide ((4 : Int) < n) = false := decide_eq_false (by omega)
  have d3 : decide ((at' : Int) < 0) = false := decide_eq_false (by omega)
  have hw : IntKind.i64.wrap ((len : Int) - (n : Int)) = len - n := by rw [IntKind.wrap_i64]; omega
  have d4 : decide ((len : Int) - (n : Int) < (at' : Int)) = true := decide_eq_true (by omega)
  go_enter Try.func90, Try.ntmps90
  go_wp2
  go_ret
  exact ⟨rfl, rfl⟩

/-- A number whose highest byte stands first. -/
def beV : List UInt8 → Nat := List.foldl (fun v b => v * 256 + b.toNat) 0
theorem beV_snoc (l : List UInt8) (b : UInt8) : beV (l ++ [b]) = beV l * 256 + b.toNat := by simp [beV]
theorem or_byte (q b : Nat) (hq : q < 2 ^ 50) (hb : b < 256) : bits .or .i64 ((q : Int) * 256) (wrap64 (b : Int)) = ((q * 256 + b : Nat) : Int) := by
  rw [wrap64_id _ (by omega) (by omega), show (q : Int) * 256 = ((q * 256 : Nat) : Int) by simp, or_i64 _ _ (by omega) (by omega)]
  congr 1
  have := Nat.two_pow_add_eq_or_of_lt (i := 8) (b := b) (by omega) q
  rw [Nat.mul_comm q 256]
  simpa using this.symm

set_option maxHeartbeats 400000 in
theorem big_ok {w : World} {v : Value} {bs : List UInt8} (hv : BytesR w v bs) {at' n : Nat} (h1 : 1 ≤ n) (h4 : n ≤ 4) (ha : at' + n ≤ bs.length) :
    Calls Try.prog 64 #[v, .int .i64 at', .int .i64 n] w fun e w' => e = .returned (.tuple #[.int .i64 (beV ((bs.drop at').take n) : Nat), .int .i64 0]) ∧ w' = w := by
  obtain ⟨ao, cap, rfl, hl, hc, hcell⟩ := hv.cell
  have Hc := Lib.hid hcell
  clear hcell hv
  go_enter Try.func64, Try.ntmps64
  go_wp2_with (go_at_call 90; refine (fits_ok (v := .slice ao bs.length cap) h1 h4 (by omega) ha).mono ?_; rintro e w' ⟨rfl, rfl⟩)
  go_loop [9, 10] (fun x i => ∃ k q : Nat, k ≤ n ∧ Hid (q = beV ((bs.drop at').take k)) ∧ q < 2 ^ 32 ∧ Hid (q < 256 ^ k) ∧ x = .int .i64 q ∧ i = .int .i64 k) (fun _ i => n - (intOf i).toNat)
  case atStart => exact ⟨0, 0, by omega, by simp [Hid, beV], by omega, by simp [Hid], rfl, rfl⟩
  case round =>
    obtain ⟨k, q, hk, Hq, hq, Hp, rfl, rfl⟩ := hrel
    by_cases hlt : k < n
    · obtain ⟨b, o, rfl, hb, hcl⟩ := Hc.out (at' + k) (by omega)
      have hwa : IntKind.i64.wrap ((at' : Int) + (k : Int)) = at' + k := by apply wraps_i64 <;> omega
      have hi1 : (0 : Int) ≤ (at' : Int) + k := by omega
      have hi2 : (at' : Int) + k < bs.length := by omega
      go_wp2
      have hbb := UInt8.toNat_lt bs[at' + k]
      have hp1 : 256 ^ k ≤ 256 ^ 3 := Nat.pow_le_pow_right (by omega) (by omega)
      have hq3 : q < 16777216 := Nat.lt_of_lt_of_le Hp.out (by simpa using hp1)
      refine ⟨⟨k + 1, q * 256 + bs[at' + k].toNat, by omega, ?_, by omega, ?_, vi (or_byte _ _ (by omega) hbb), vi (by omega)⟩, by simp [intOf]; omega⟩
      · unfold Hid
        rw [List.take_succ_eq_append_getElem (by simp; omega), beV_snoc, ← Hq.out, List.getElem_drop]
      · have := Hp.out
        unfold Hid
        rw [Nat.pow_succ]
        omega
    · obtain rfl : k = n := by omega
      go_wp2
      go_ret2
      exact ⟨ret2_i (by rw [Hq.out]) rfl, rfl⟩

/-- A number whose lowest byte stands first. -/
def leV : List UInt8 → Nat
  | [] => 0
  | b :: r => b.toNat + 256 * leV r
theorem leV_snoc (l : List UInt8) (b : UInt8) : leV (l ++ [b]) = leV l + b.toNat * 256 ^ l.length := by
  induction l with
  | nil => simp [leV]
  | cons c r ih =>
    simp only [List.cons_append, leV, ih, List.length_cons, Nat.pow_succ]
    rw [Nat.mul_add, Nat.add_assoc]
    congr 2
    rw [Nat.mul_comm 256, Nat.mul_assoc]
theorem leV_lt (l : List UInt8) : leV l < 256 ^ l.length := by
  induction l with
  | nil => simp [leV]
  | cons b r ih =>
    simp only [leV, List.length_cons, Nat.pow_succ]
    have := UInt8.toNat_lt b
    omega

theorem or_little (q b k : Nat) (hq : q < 256 ^ k) (hk : k < 4) (hb : b < 256) : bits .or .i64 (q : Int) (wrap64 (wrap64 (b : Int) * 2 ^ (8 * k))) = ((q + b * 256 ^ k : Nat) : Int) := by
  have e : (256 : Nat) ^ k = 2 ^ (8 * k) := by rw [Nat.pow_mul]
  have hp1 : 2 ^ (8 * k) ≤ 2 ^ 24 := Nat.pow_le_pow_right (by omega) (by omega)
  rw [e] at hq
  have hbm : b * 2 ^ (8 * k) ≤ 255 * 2 ^ 24 := Nat.mul_le_mul (by omega) hp1
  rw [wrap64_id (b : Int) (by omega) (by omega), or_shl_i64 q b (8 * k) (by omega) (by omega), e]
  congr 1
  have := Nat.two_pow_add_eq_or_of_lt (i := 8 * k) (b := q) hq b
  rw [Nat.or_comm, Nat.mul_comm b, ← this, Nat.add_comm]

end Go.Proofs.Ytdpocnkeokplpaa
