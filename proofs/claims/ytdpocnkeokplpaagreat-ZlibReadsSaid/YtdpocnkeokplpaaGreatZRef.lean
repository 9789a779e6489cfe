/- The document's zlib: halftoneref08.Of. -/
import Derived.Test.YtdpocnkeokplpaaGreatZM
import Derived.Test.YtdpocnkeokplpaaGreatZNum
import Derived.Test.YtdpocnkeokplpaaGreatRunS
import Derived.Laws.Rows
import Derived.Laws.ResultCell
import Derived.Deep.CutRange
namespace Go.Proofs.YtdpocnkeokplpaaGreat
open Go.RowKit Go.Hal
set_option linter.unusedVariables false
set_option linter.unusedSimpArgs false

def zrC : Array Value := #[.slice none 0 0, .slice none 0 0, .int .i64 0, .bool false]
attribute [local simp, local go_sem] zrC

set_option maxRecDepth 100000 in
set_option maxHeartbeats 1000000 in
theorem ref8_short {w : World} {lim : Int} {Rs : List Res} (hS : Sat w Rs) {v : Value} {ys : List UInt8} (hv : ∀ w', Sat w' Rs → SlR w' 5 1 ys.length v (ys.map byteV)) (h2 : ys.length < 2) :
    Calls Tryz.prog 8 #[v, .int .i64 lim] w fun e' w' => e' = .returned (.agg #[.slice none 0 0, .slice none 0 0, .int .i64 2, .bool false]) ∧ Sat w' Rs := by
  obtain ⟨ao, cap, rfl, -, -, -, -⟩ := hv w hS
  have t1 : decide ((ys.length : Int) < 2) = true := decide_eq_true (by omega)
  have t2 : decide (ys.length < 2) = true := decide_eq_true h2
  clear h2
  go_enter Tryz.func8, Tryz.ntmps8
  go_wp2
  exact bodyPost_ret (results_cell_row rfl _ _ _ 29 _ (0, 0) _ rfl (hS.alloc (.cells #[.slice none 0 0, .slice none 0 0, .int .i64 2, .bool false] 29)).heap rfl rfl rfl) rfl ⟨rfl, hS.alloc_drop _⟩

set_option maxRecDepth 100000 in
set_option maxHeartbeats 2000000 in
theorem ref8_form {w : World} {lim : Int} {Rs : List Res} (hS : Sat w Rs) {v : Value} {a c : UInt8} {b : List UInt8} (hv : ∀ w', Sat w' Rs → SlR w' 5 1 (a :: c :: b).length v ((a :: c :: b).map byteV)) (hno : ¬ HeadOk a c) :
    Calls Tryz.prog 8 #[v, .int .i64 lim] w fun e' w' => e' = .returned (.agg #[.slice none 0 0, .slice none 0 0, .int .i64 3, .bool false]) ∧ Sat w' Rs := by
  have hA := hS.alloc_drop (.cells #[.slice none 0 0, .slice none 0 0, .int .i64 0, .bool false] 29)
  obtain ⟨ao, cap, rfl, hlc, hcm, hcell⟩ := BytesR.cell (hv _ hA)
  obtain ⟨L, hL⟩ : ∃ L, Hid (L = (a :: c :: b).length) := ⟨_, Lib.hid rfl⟩
  have hL2 : 2 ≤ L := by rw [hL.out, List.length_cons, List.length_cons]; omega
  obtain ⟨bb, o, rfl, hb, h0⟩ := hcell 0 (by rw [← hL.out]; omega)
  obtain ⟨bb', o', he, -, h1⟩ := hcell 1 (by rw [← hL.out]; omega)
  simp only [Option.some.injEq, Addr.mk.injEq, and_true] at he
  obtain ⟨rfl, rfl⟩ := he
  rw [← hL.out]
  obtain ⟨A, HA⟩ : ∃ A : Nat, Hid (A = a.toNat) := ⟨_, Lib.hid rfl⟩
  obtain ⟨C, HC⟩ : ∃ C : Nat, Hid (C = c.toNat) := ⟨_, Lib.hid rfl⟩
  have h0' : (w.alloc (.cells #[.slice none 0 0, .slice none 0 0, .int .i64 0, .bool false] 29)).cell? ⟨bb, o, none⟩ = some (.int .u8 A) := by rw [HA.out]; exact h0
  have h1' : (w.alloc (.cells #[.slice none 0 0, .slice none 0 0, .int .i64 0, .bool false] 29)).cell? ⟨bb, o + 1, none⟩ = some (.int .u8 C) := by rw [HC.out]; exact h1
  have hA8 : A < 256 := by rw [HA.out]; exact a.toNat_lt
  have hC8 : C < 256 := by rw [HC.out]; exact c.toNat_lt
  have t1 : decide ((L : Int) < 2) = false := decide_eq_false (by omega)
  have t2 : decide (L < 2) = false := decide_eq_false (by omega)
  have g0 : (0 : Int) < (L : Int) := by omega
  have g1 : (1 : Int) < (L : Int) := by omega
  have HS := Lib.hid hS
  have Hno : Hid (¬ (A % 16 = 8 ∧ A / 16 ≤ 7 ∧ C / 32 % 2 = 0 ∧ (256 * A + C) % 31 = 0)) := by
    unfold Hid
    rw [HA.out, HC.out]
    exact hno
  clear hS hv hno hA hcell h0 h1 hlc hcm
  go_enter Tryz.func8, Tryz.ntmps8
  go_upto_region 3 with (fail)
  obtain ⟨p1, hp1⟩ : ∃ p1 : Nat, p1 = A % 16 := ⟨_, rfl⟩
  obtain ⟨p2, hp2⟩ : ∃ p2 : Nat, p2 = A / 16 := ⟨_, rfl⟩
  obtain ⟨p3, hp3⟩ : ∃ p3 : Nat, p3 = C / 32 % 2 := ⟨_, rfl⟩
  obtain ⟨p4, hp4⟩ : ∃ p4 : Nat, p4 = (256 * A + C) % 31 := ⟨_, rfl⟩
  rw [← hp1, ← hp2, ← hp3, ← hp4] at Hno
  have hq1 : (A : Int) % 16 = (p1 : Int) := by omega
  have hq2 : (A : Int) / 16 = (p2 : Int) := by omega
  have hq3 : (C : Int) / 32 % 2 = (p3 : Int) := by omega
  have hq4 : (256 * (A : Int) + (C : Int)) % 31 = (p4 : Int) := by omega
  have hp3b : p3 < 2 := by omega
  clear hp1 hp2 hp3 hp4
  by_cases t1 : p1 = 8
  case neg =>
    have t1i : ((p1 : Int) != 8) = true := bne_iff_ne.2 (by omega)
    go_region
    go_wp2
    exact bodyPost_ret (results_cell_row rfl _ _ _ 29 _ (0, 0) _ rfl (HS.out.alloc (.cells #[.slice none 0 0, .slice none 0 0, .int .i64 3, .bool false] 29)).drew.heap rfl rfl rfl) rfl ⟨rfl, (HS.out.alloc_drop _).drew⟩
  subst t1
  by_cases t2 : p2 ≤ 7
  case neg =>
    have t2i : decide ((7 : Int) < (p2 : Int)) = true := decide_eq_true (by omega)
    have t2n : decide (7 < p2) = true := decide_eq_true (by omega)
    go_region
    go_wp2
    exact bodyPost_ret (results_cell_row rfl _ _ _ 29 _ (0, 0) _ rfl (HS.out.alloc (.cells #[.slice none 0 0, .slice none 0 0, .int .i64 3, .bool false] 29)).drew.heap rfl rfl rfl) rfl ⟨rfl, (HS.out.alloc_drop _).drew⟩
  have t2i : decide ((7 : Int) < (p2 : Int)) = false := decide_eq_false (by omega)
  have t2n : decide (7 < p2) = false := decide_eq_false (by omega)
  by_cases t3 : p3 = 0
  case neg =>
    obtain rfl : p3 = 1 := by omega
    clear hp3b t3
    go_region
    go_wp2
    exact bodyPost_ret (results_cell_row rfl _ _ _ 29 _ (0, 0) _ rfl (HS.out.alloc (.cells #[.slice none 0 0, .slice none 0 0, .int .i64 3, .bool false] 29)).drew.heap rfl rfl rfl) rfl ⟨rfl, (HS.out.alloc_drop _).drew⟩
  subst t3
  have t4 : ¬ p4 = 0 := fun h => Hno.out ⟨rfl, t2, rfl, h⟩
  have t4i : ((p4 : Int) != 0) = true := bne_iff_ne.2 (by omega)
  go_region
  go_wp2
  exact bodyPost_ret (results_cell_row rfl _ _ _ 29 _ (0, 0) _ rfl (HS.out.alloc (.cells #[.slice none 0 0, .slice none 0 0, .int .i64 3, .bool false] 29)).drew.heap rfl rfl rfl) rfl ⟨rfl, (HS.out.alloc_drop _).drew⟩

end Go.Proofs.YtdpocnkeokplpaaGreat
