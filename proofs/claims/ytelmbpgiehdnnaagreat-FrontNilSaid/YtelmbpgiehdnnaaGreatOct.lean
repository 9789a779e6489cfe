/- octets.Cursor over two bytes, and when it has failed; screen.table without marks. -/
import Derived.Test.YtelmbpgiehdnnaaGreatProg
import Derived.Test.YtelmbpgiehdnnaaGreatSl
import Derived.Test.YtelmbpgiehdnnaaGreatArith
import Derived.Deep.QuietTactic
import Derived.BigQuiet
import Derived.Handy
import Derived.WalkMore
import Derived.Clock
namespace Go.Proofs.YtelmbpgiehdnnaaGreat
open Go.RowKit Go.Hal
set_option linter.unusedVariables false
set_option linter.unusedSimpArgs false

abbrev cur (k : Nat) (v : Value) (e : Int) : Res := blk k (.cells #[v, .int .i64 0, .int .i64 e] 195 (0, 0))
theorem cur_cells {w : World} {k : Nat} {v : Value} {e : Int} {Rs : List Res} (hS : Sat w (cur k v e :: Rs)) :
    w.cell? ⟨k, 0, none⟩ = some v ∧ w.cell? ⟨k, 1, none⟩ = some (.int .i64 0) ∧ w.cell? ⟨k, 2, none⟩ = some (.int .i64 e) ∧ w.frozen? ⟨k, 2, none⟩ = false := by
  have h := hS.heap
  exact ⟨by rw [cell_of_row w k 0 _ _ _ h]; rfl, by rw [cell_of_row w k 1 _ _ _ h]; rfl, by rw [cell_of_row w k 2 _ _ _ h]; rfl, frozen_of_row w k 2 _ _ h⟩

theorem oerr {w : World} {k : Nat} {v : Value} {e : Int} {Rs : List Res} (hS : Sat w (cur k v e :: Rs)) :
    Calls Tryz.prog 81 #[.pointer (some ⟨k, 0, none⟩)] w fun x w' => x = .returned (.int .i64 e) ∧ w' = w := by
  obtain ⟨c0, c1, c2, f2⟩ := cur_cells hS
  go_enter Tryz.func81, Tryz.ntmps81
  go_wp2
  go_ret
  exact ⟨rfl, rfl⟩

theorem ofail_no {w : World} {k : Nat} {v x : Value} {Rs : List Res} (hS : Sat w (cur k v 2 :: Rs)) :
    Calls Tryz.prog 118 #[.pointer (some ⟨k, 0, none⟩), x] w fun e w' => e = .returned (.tuple #[]) ∧ w' = w := by
  obtain ⟨c0, c1, c2, f2⟩ := cur_cells hS
  go_enter Tryz.func118, Tryz.ntmps118
  go_wp2_with (go_at_call 81; refine (oerr hS).mono ?_; rintro e w1 ⟨rfl, rfl⟩)
  go_end0
  exact ⟨rfl, rfl⟩

theorem ofail {w : World} {k : Nat} {v : Value} {Rs : List Res} (hS : Sat w (cur k v 0 :: Rs)) :
    Calls Tryz.prog 118 #[.pointer (some ⟨k, 0, none⟩), .int .i64 2] w fun e w' => e = .returned (.tuple #[]) ∧ Sat w' (cur k v 2 :: Rs) := by
  obtain ⟨c0, c1, c2, f2⟩ := cur_cells hS
  go_enter Tryz.func118, Tryz.ntmps118
  go_wp2_with (go_at_call 81; refine (oerr hS).mono ?_; rintro e w1 ⟨rfl, rfl⟩)
  go_end0
  exact ⟨rfl, hS.setCell (i := 2) _⟩

theorem onumber {w : World} {k : Nat} {v x y : Value} {Rs : List Res} (hS : Sat w (cur k v 2 :: Rs)) :
    Calls Tryz.prog 107 #[.pointer (some ⟨k, 0, none⟩), x, y] w fun e w' => e = .returned (.int .i64 0) ∧ w' = w := by
  obtain ⟨c0, c1, c2, f2⟩ := cur_cells hS
  go_enter Tryz.func107, Tryz.ntmps107
  go_wp2_with (go_at_call 81; refine (oerr hS).mono ?_; rintro e w1 ⟨rfl, rfl⟩)
  go_ret
  exact ⟨rfl, rfl⟩

theorem olittle {w : World} {k : Nat} {v x : Value} {Rs : List Res} (hS : Sat w (cur k v 2 :: Rs)) :
    Calls Tryz.prog 141 #[.pointer (some ⟨k, 0, none⟩), x] w fun e w' => e = .returned (.int .i64 0) ∧ w' = w := by
  go_enter Tryz.func141, Tryz.ntmps141
  go_wp2_with (go_at_call 107; refine (onumber hS).mono ?_; rintro e w1 ⟨rfl, rfl⟩)
  go_ret
  exact ⟨rfl, rfl⟩

theorem table_none {w : World} {v : Value} : Calls Tryz.prog 143 #[v, .int .i64 0] w fun e w' => e = .returned (.slice none 0 0) ∧ w' = w := by
  go_enter Tryz.func143, Tryz.ntmps143
  go_wp2
  go_ret
  exact ⟨rfl, rfl⟩

set_option maxHeartbeats 400000 in
theorem obytes {w : World} {k cap : Nat} {ao : Option Addr} {Rs : List Res} (hS : Sat w (cur k (.slice ao 2 cap) 0 :: Rs)) :
    Calls Tryz.prog 140 #[.pointer (some ⟨k, 0, none⟩), .int .i64 6] w fun e w' => e = .returned (.slice none 0 0) ∧ Sat w' (cur k (.slice ao 2 cap) 2 :: Rs) := by
  obtain ⟨c0, c1, c2, f2⟩ := cur_cells hS
  go_enter Tryz.func140, Tryz.ntmps140
  go_wp2_with (go_at_call 81; refine (oerr hS).mono ?_; rintro e w1 ⟨rfl, rfl⟩)
  go_quiet (fail)
  go_wp2_with (go_at_call 118; refine (ofail (hS.drewN nq)).mono ?_; rintro e w1 ⟨rfl, h1⟩)
  go_ret
  exact ⟨rfl, h1⟩

theorem Tryz.infoByte : (Tryz.prog.info? 5).map (fun i => (i.zero, i.size, i.bytes)) = some (some (.int .u8 0), 1, 1) := by kernel_rfl

set_option maxHeartbeats 400000 in
theorem onew {w : World} {v : Value} {Rs : List Res} (hS : Sat w (sl 5 1 2 v [.int .u8 71, .int .u8 73] :: Rs)) :
    Calls Tryz.prog 79 #[v] w fun e w' => ∃ k ao cap, e = .returned (.pointer (some ⟨k, 0, none⟩)) ∧ Sat w' (cur k (.slice ao 2 cap) 0 :: sl 5 1 2 v [.int .u8 71, .int .u8 73] :: Rs) := by
  obtain ⟨i0, hi, hz0, hz1, hz2⟩ := info_parts Tryz.infoByte
  have hg : ∀ w' : World, w' = w.alloc (.cells #[] 5) → Sat w' (sl 5 1 2 v [.int .u8 71, .int .u8 73] :: Rs) := by rintro w' rfl; exact hS.alloc_drop _
  have Hg := Lib.hid hg
  obtain ⟨ao0, cap0, rfl, -, -, -, -⟩ := hS.sl_read
  clear hg
  go_enter Tryz.func79, Tryz.ntmps79
  go_wp2_with (at_builtin; refine wpList_append_sat _ rfl _ _ 22 22 rfl 5 i0 (.int .u8 0) 1 1 Tryz.underlying22 hi hz0 hz1 hz2 rfl (by decide) 0 _ _ _ rfl ((Hg.out _ rfl).sl_nil 5 1 (some _)) 2 _ _ rfl ((Hg.out _ rfl).sl_read.src (P := Tryz.prog) Tryz.underlying22 (by simp [Value.oneCell'])) (by decide) (by decide) ?_)
  intro v' w' hS'
  obtain ⟨ao, cap, rfl, -, -, -, -⟩ := hS'.sl_read
  go_wp2
  go_ret
  exact ⟨w'.heap.size, ao, cap, rfl, (hS'.tail).alloc _⟩

end Go.Proofs.YtelmbpgiehdnnaaGreat
