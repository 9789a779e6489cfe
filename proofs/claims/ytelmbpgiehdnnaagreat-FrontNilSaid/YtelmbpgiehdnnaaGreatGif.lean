/- gif.Decoder: New, and its first two bytes. -/
import Derived.Test.YtelmbpgiehdnnaaGreatScr
namespace Go.Proofs.YtelmbpgiehdnnaaGreat
open Go.RowKit Go.Hal
set_option linter.unusedVariables false
set_option linter.unusedSimpArgs false

def gifC (held : Value) (seen : Int) : Array Value :=
  #[.int .i64 0, held, .int .i64 0, .int .i64 0, .int .i64 0, .int .i64 0, .bool false, .slice none 0 0, .slice none 0 0, .slice none 0 0, .slice none 0 0, .pointer none, .pointer none, .slice none 0 0, .slice none 0 0, .int .i64 0, .int .i64 seen, .int .i64 0]
abbrev gdec (g : Nat) (held : Value) (seen : Int) : Res := blk g (.cells (gifC held seen) 78 (0, 0))

theorem gdec_cells {w : World} {g : Nat} {held : Value} {seen : Int} {Rs : List Res} (hS : Sat w (gdec g held seen :: Rs)) :
    w.cell? ⟨g, 0, none⟩ = some (.int .i64 0) ∧ w.cell? ⟨g, 1, none⟩ = some held ∧ w.cell? ⟨g, 16, none⟩ = some (.int .i64 seen) ∧ w.cell? ⟨g, 17, none⟩ = some (.int .i64 0) ∧ w.frozen? ⟨g, 1, none⟩ = false ∧ w.frozen? ⟨g, 16, none⟩ = false ∧ g < w.heap.size := by
  have h := hS.heap
  exact ⟨by rw [cell_of_row w g 0 _ _ _ h]; rfl, by rw [cell_of_row w g 1 _ _ _ h]; rfl, by rw [cell_of_row w g 16 _ _ _ h]; rfl, by rw [cell_of_row w g 17 _ _ _ h]; rfl, frozen_of_row w g 1 _ _ h, frozen_of_row w g 16 _ _ h, (Array.getElem?_eq_some_iff.1 h).1⟩

set_option maxHeartbeats 400000 in
theorem gnew {w : World} {Rs : List Res} (hS : Sat w Rs) : Calls Tryz.prog 13 #[] w fun e w' => ∃ g, e = .returned (.pointer (some ⟨g, 0, none⟩)) ∧ Sat w' (gdec g (.slice none 0 0) 0 :: Rs) := by
  go_enter Tryz.func13, Tryz.ntmps13
  go_wp2
  go_ret
  exact ⟨w.heap.size, rfl, hS.alloc _⟩

attribute [local simp, local go_sem] screenC

set_option maxRecDepth 100000 in
set_option maxHeartbeats 1000000 in
theorem gpush {w : World} {g : Nat} {v : Value} {Rs : List Res} (hS : Sat w (gdec g (.slice none 0 0) 0 :: sl 5 1 2 v [.int .u8 71, .int .u8 73] :: Rs)) :
    Calls Tryz.prog 131 #[.pointer (some ⟨g, 0, none⟩), v] w fun e w' => e = .returned (.tuple #[.slice none 0 0, .int .i64 0]) ∧ ∃ h, Sat w' (gdec g h 2 :: sl 5 1 2 v [.int .u8 71, .int .u8 73] :: Rs) := by
  obtain ⟨i0, hi, hz0, hz1, hz2⟩ := info_parts Tryz.infoByte
  obtain ⟨ao, cap, rfl, -, -, -, -⟩ := (hS.at_ 1 _ rfl).choose_spec
  have hS1 : Sat (w.setCell ⟨g, 16, none⟩ (.int .i64 2)) (gdec g (.slice none 0 0) 2 :: sl 5 1 2 (.slice ao 2 cap) [.int .u8 71, .int .u8 73] :: Rs) := hS.setCell (i := 16) _
  have Hsrc := Lib.hid ((hS1.swap).sl_read.src (P := Tryz.prog) Tryz.underlying22 (by simp [Value.oneCell']))
  obtain ⟨c0, c1, c16, c17, f1, f16, hg⟩ := gdec_cells hS
  go_enter Tryz.func131, Tryz.ntmps131
  go_wp2
  go_step3
  go_wp2
  go_step3
  go_wp2
  refine wp_loop_rounds 1 ?_
  rw [rounds_succ]
  go_wp2_with (at_builtin; refine wpList_append_sat _ rfl _ _ 22 22 rfl 5 i0 (.int .u8 0) 1 1 Tryz.underlying22 hi hz0 hz1 hz2 rfl (by decide) 0 _ _ _ rfl (hS1.sl_nil 5 1 none) 2 _ _ rfl Hsrc.out (by decide) (by decide) ?_)
  intro v1 w1 h1
  obtain ⟨ao1, cap1, hv1, -, -, -, -⟩ := h1.sl_read
  subst hv1
  have h1 : Sat w1 (sl 5 1 2 (.slice ao1 2 cap1) [.int .u8 71, .int .u8 73] :: gdec g (.slice none 0 0) 2 :: sl 5 1 2 (.slice ao 2 cap) [.int .u8 71, .int .u8 73] :: Rs) := h1
  clear c0 c1 c16 c17 f1 f16 hg Hsrc hS1 hS
  obtain ⟨c0, c1, c16, c17, f1, f16, hg⟩ := gdec_cells (h1.front 1 _ rfl)
  have h2 : Sat (w1.setCell ⟨g, 1, none⟩ (.slice ao1 2 cap1)) (gdec g (.slice ao1 2 cap1) 2 :: sl 5 1 2 (.slice ao1 2 cap1) [.int .u8 71, .int .u8 73] :: sl 5 1 2 (.slice ao 2 cap) [.int .u8 71, .int .u8 73] :: Rs) := (h1.front 1 _ rfl).setCell (i := 1) _
  have k1 := sread h2.swap
  clear h1
  go_wp2_with (go_at_call 133; refine k1.mono ?_; rintro e w2 ⟨rfl, h3⟩; clear c0 c1 c16 c17 f1 f16 hg; obtain ⟨c0, c1, c16, c17, f1, f16, hg⟩ := gdec_cells h3.swap)
  go_quiet (fail)
  go_wp2
  rw [Exit.noGoto_ret]
  go_ret2
  exact ⟨rfl, _, (Sat.perm (As := [_, _, _]) h3 [1, 2] [_, _] rfl (by simp)).alloc_drop _ |>.drewN _⟩

end Go.Proofs.YtelmbpgiehdnnaaGreat
