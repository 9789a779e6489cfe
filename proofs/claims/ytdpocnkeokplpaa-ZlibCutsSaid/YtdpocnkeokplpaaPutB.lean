/- octets.PutBig of two and of four bytes. -/
import Derived.Test.YtdpocnkeokplpaaOctets
import Derived.Test.YtdpocnkeokplpaaQb
import Derived.Handy
namespace Go.Proofs.Ytdpocnkeokplpaa
open Go.RowKit Go.Hal
set_option linter.unusedVariables false
set_option linter.unusedSimpArgs false

theorem make_bytes (n : Nat) (hn : n ≤ 1048576) (w : World) : (Instr.makeSlice 22 (.int .i64 n) (.int .i64 n)).run Try.prog w =
    .ok (.slice (some ⟨w.heap.size, 0, none⟩) n n) (w.alloc (.cells (madeCells #[.int .u8 0] n) 5)) := by
  obtain ⟨i0, hi, hz0, hz1, hz2⟩ := info_parts Try.infoU8
  have h := run_make (P := Try.prog) w 22 5 i0 _ Try.underlying22 hi hz0 .i64 .i64 n n (by omega) (by omega) (by rw [hz2]; omega) (by omega)
  rw [h, hz1]
  simp [Value.cells]
def be2 (v : Nat) : List UInt8 := [UInt8.ofNat (v / 256), UInt8.ofNat v]
def be4 (v : Nat) : List UInt8 := [UInt8.ofNat (v / 16777216), UInt8.ofNat (v / 65536), UInt8.ofNat (v / 256), UInt8.ofNat v]
theorem byte_of (v : Nat) : IntKind.u8.wrap (v : Int) = ((UInt8.ofNat v).toNat : Int) := by
  rw [IntKind.wrap_u8, UInt8.toNat_ofNat']
  omega
theorem byte_div (v d : Nat) : (Value.int .u8 ((v : Int) / (d : Int) % 256)) = byteV (UInt8.ofNat (v / d)) := by
  unfold byteV
  rw [UInt8.toNat_ofNat']
  congr 1
theorem byte_top (v : Nat) (hv : v < 4294967296) : (Value.int .u8 ((v : Int) / (16777216 : Nat))) = byteV (UInt8.ofNat (v / 16777216)) := by
  unfold byteV
  rw [UInt8.toNat_ofNat']
  congr 1
  omega
theorem byte_mod (v : Nat) : (Value.int .u8 ((v : Int) % 256)) = byteV (UInt8.ofNat v) := by
  unfold byteV
  rw [UInt8.toNat_ofNat']
  congr 1
set_option maxRecDepth 100000 in
set_option maxHeartbeats 4000000 in
theorem putBig_2 {w : World} {Rs : List Res} (hS : Sat w Rs) (v : Nat) (hv : v < 4294967296) :
    Calls Try.prog 61 #[.int .i64 2, .int .i64 v] w fun e w' => ∃ ov, e = .returned ov ∧ Sat w' (sl 5 1 2 ov ((be2 v).map byteV) :: Rs) := by
  have hmk := make_bytes 2 (by omega) w
  rw [show ((2 : Nat) : Int) = 2 from rfl] at hmk
  have hS2 : Sat (w.alloc (.cells (madeCells #[.int .u8 0] 2) 5)) (sl 5 1 2 (.slice (some ⟨w.heap.size, 0, none⟩) 2 2) (([0, 0] : List UInt8).map byteV) :: Rs) := by
    refine hS.sl_made (Nat.le_refl _) (by unfold maxLen; omega) (by simp) (by rw [size_madeCells]; exact Nat.le_refl _) (fun j u hu => ?_)
    have h2 : madeCells #[Value.int .u8 0] 2 = #[.int .u8 0, .int .u8 0] := by kernel_rfl
    rw [h2]
    simpa [byteV] using hu
  generalize (w.alloc (.cells (madeCells #[.int .u8 0] 2) 5)) = W2 at hmk hS2
  generalize w.heap.size = bl at hmk hS2
  obtain ⟨bl', ol', capl', heq, -, -, hbl, hcl', hfl'⟩ := hS2.sl_cells (by omega)
  simp only [Value.slice.injEq, Option.some.injEq, Addr.mk.injEq, and_true, true_and] at heq
  obtain ⟨⟨rfl, rfl⟩, rfl⟩ := heq
  have hc0 := hcl' 0 _ rfl
  have hf0 := hfl' 0
  have hc1 := hcl' 1 _ rfl
  have hf1 := hfl' 1
  have hE := ((hS2.sl_set 0 (by simp) (.int .u8 ((v : Int) / 256 % 256))).sl_set 1 (by simp) (.int .u8 ((v : Int) % 256)))
  simp only [Nat.zero_add] at hE
  have HE := Lib.hid hE
  simp only [Nat.zero_add] at hc0 hf0 hc1 hf1
  clear hcl' hfl' hS2 hS hE
  go_enter Try.func61, Try.ntmps61
  go_wp2
  go_rounds 3
  go_ret
  refine ⟨_, rfl, ?_⟩
  have h := HE.out
  have e0 := byte_div v 256
  have e1 := byte_mod v
  unfold be2
  simp only [List.map_cons, List.map_nil, ← e0, ← e1]
  exact h
set_option maxRecDepth 100000 in
set_option maxHeartbeats 4000000 in
theorem putBig_4 {w : World} {Rs : List Res} (hS : Sat w Rs) (v : Nat) (hv : v < 4294967296) :
    Calls Try.prog 61 #[.int .i64 4, .int .i64 v] w fun e w' => ∃ ov, e = .returned ov ∧ Sat w' (sl 5 1 4 ov ((be4 v).map byteV) :: Rs) := by
  have hmk := make_bytes 4 (by omega) w
  rw [show ((4 : Nat) : Int) = 4 from rfl] at hmk
  have hS2 : Sat (w.alloc (.cells (madeCells #[.int .u8 0] 4) 5)) (sl 5 1 4 (.slice (some ⟨w.heap.size, 0, none⟩) 4 4) (([0, 0, 0, 0] : List UInt8).map byteV) :: Rs) := by
    refine hS.sl_made (Nat.le_refl _) (by unfold maxLen; omega) (by simp) (by rw [size_madeCells]; exact Nat.le_refl _) (fun j u hu => ?_)
    have h2 : madeCells #[Value.int .u8 0] 4 = #[.int .u8 0, .int .u8 0, .int .u8 0, .int .u8 0] := by kernel_rfl
    rw [h2]
    simpa [byteV] using hu
  generalize (w.alloc (.cells (madeCells #[.int .u8 0] 4) 5)) = W2 at hmk hS2
  generalize w.heap.size = bl at hmk hS2
  obtain ⟨bl', ol', capl', heq, -, -, hbl, hcl', hfl'⟩ := hS2.sl_cells (by omega)
  simp only [Value.slice.injEq, Option.some.injEq, Addr.mk.injEq, and_true, true_and] at heq
  obtain ⟨⟨rfl, rfl⟩, rfl⟩ := heq
  have hc0 := hcl' 0 _ rfl
  have hf0 := hfl' 0
  have hc1 := hcl' 1 _ rfl
  have hf1 := hfl' 1
  have hc2 := hcl' 2 _ rfl
  have hf2 := hfl' 2
  have hc3 := hcl' 3 _ rfl
  have hf3 := hfl' 3
  have hE := ((((hS2.sl_set 0 (by simp) (.int .u8 ((v : Int) / 16777216))).sl_set 1 (by simp) (.int .u8 ((v : Int) / 65536 % 256))).sl_set 2 (by simp) (.int .u8 ((v : Int) / 256 % 256))).sl_set 3 (by simp) (.int .u8 ((v : Int) % 256)))
  simp only [Nat.zero_add] at hE
  have HE := Lib.hid hE
  simp only [Nat.zero_add] at hc0 hf0 hc1 hf1 hc2 hf2 hc3 hf3
  clear hcl' hfl' hS2 hS hE
  go_enter Try.func61, Try.ntmps61
  go_wp2
  go_rounds 5
  go_ret
  refine ⟨_, rfl, ?_⟩
  have h := HE.out
  have e0 := byte_top v hv
  have e1 := byte_div v 65536
  have e2 := byte_div v 256
  have e3 := byte_mod v
  unfold be4
  simp only [List.map_cons, List.map_nil, ← e0, ← e1, ← e2, ← e3]
  exact h

end Go.Proofs.Ytdpocnkeokplpaa
