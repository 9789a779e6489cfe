/- The document's number of bytes (halftoneref02.Number). -/
import Derived.Test.YtdpocnkeokplpaaGreatOctets
namespace Go.Proofs.YtdpocnkeokplpaaGreat
open Go.RowKit Go.Hal
set_option linter.unusedVariables false
set_option linter.unusedSimpArgs false

set_option maxHeartbeats 1000000 in
theorem number8_any {w : World} {v : Value} {bs : List UInt8} (hv : BytesR w v bs) (h4 : bs.length ≤ 4) :
    Calls Tryz.prog 21 #[v] w fun e w' => e = .returned (.int .i64 (beV bs : Nat)) ∧ w' = w := by
  obtain ⟨ao, cap, rfl, hl, hc, hcell⟩ := hv.cell
  have Hc := Lib.hid hcell
  clear hcell hv
  go_enter Tryz.func21, Tryz.ntmps21
  go_wp2
  go_loop [3, 4] (fun x i => ∃ k q : Nat, k ≤ bs.length ∧ Hid (q = beV (bs.take k)) ∧ Hid (q < 256 ^ k) ∧ q < 4294967296 ∧ x = .int .i64 q ∧ i = .int .i64 k) (fun _ i => bs.length - (intOf i).toNat)
  case atStart => exact ⟨0, 0, by omega, by simp [Hid, beV], by simp [Hid], by omega, rfl, rfl⟩
  case round =>
    obtain ⟨k, q, hk, Hq, Hp, hq, rfl, rfl⟩ := hrel
    by_cases hlt : k < bs.length
    · obtain ⟨b, o, rfl, hb, hcl⟩ := Hc.out k (by omega)
      have hd : decide ((k : Int) < (bs.length : Int)) = true := decide_eq_true (by omega)
      have hd' : decide (k < bs.length) = true := decide_eq_true hlt
      have hi2 : (k : Int) < (bs.length : Int) := by omega
      have hbb := UInt8.toNat_lt bs[k]
      have hp1 : 256 ^ k ≤ 256 ^ 3 := Nat.pow_le_pow_right (by omega) (by omega)
      have hq3 : q < 16777216 := Nat.lt_of_lt_of_le Hp.out (by simpa using hp1)
      clear hp1
      go_wp2
      refine ⟨⟨k + 1, q * 256 + bs[k].toNat, by omega, ?_, ?_, by omega, vi (by omega), vi (by omega)⟩, by simp [intOf]; omega⟩
      · unfold Hid
        rw [List.take_succ_eq_append_getElem (by omega), beV_snoc, ← Hq.out]
      · have := Hp.out
        unfold Hid
        rw [Nat.pow_succ]
        omega
    · obtain rfl : k = bs.length := by omega
      have hd : decide ((bs.length : Int) < (bs.length : Int)) = false := decide_eq_false (by omega)
      go_wp2
      go_ret
      exact ⟨by rw [Hq.out, List.take_length]; rfl, rfl⟩

end Go.Proofs.YtdpocnkeokplpaaGreat
