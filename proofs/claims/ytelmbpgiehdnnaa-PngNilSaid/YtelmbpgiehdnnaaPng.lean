/- chunk.Reader and png.Decoder at their first bytes. -/
import Derived.Test.YtelmbpgiehdnnaaProg
import Derived.Test.YtelmbpgiehdnnaaSl
import Derived.Test.YtelmbpgiehdnnaaArith
import Derived.Deep.QuietTactic
import Derived.BigQuiet
import Derived.Handy
import Derived.WalkMore
import Derived.Deep.RegionHeld3
import Derived.Clock
namespace Go.Proofs.Ytelmbpgiehdnnaa
open Go.RowKit Go.Hal
set_option linter.unusedVariables false
set_option linter.unusedSimpArgs false

def chunkC (held : Value) (e : Int) : Array Value := #[.int .i64 0, held, .string ⟨#[]⟩, .int .i64 0, .int .i64 0, .int .u32 0, .int .i64 e]
abbrev chk (c : Nat) (held : Value) (e : Int) : Res := blk c (.cells (chunkC held e) 62 (0, 0))
def decC (c : Nat) (seen e : Int) : Array Value :=
  #[.int .i64 0, .int .i64 0, .int .i64 0, .int .i64 0, .bool false, .slice none 0 0, .slice none 0 0, .slice none 0 0, .slice none 0 0, .bool false, .bool false, .bool false,
    .slice none 0 0, .int .i64 0, .slice none 0 0, .slice none 0 0, .int .i64 0, .int .i64 0, .int .i64 0, .pointer (some ⟨c, 0, none⟩), .pointer none, .slice none 0 0, .int .i64 0,
    .bool false, .bool false, .int .i64 seen, .int .i64 e]
abbrev dec (d c : Nat) (seen e : Int) : Res := blk d (.cells (decC c seen e) 50 (0, 0))

set_option maxHeartbeats 400000 in
theorem cnew {w : World} {Rs : List Res} (hS : Sat w Rs) : Calls Try.prog 16 #[] w fun e w' => ∃ c, e = .returned (.pointer (some ⟨c, 0, none⟩)) ∧ Sat w' (chk c (.slice none 0 0) 0 :: Rs) := by
  go_enter Try.func16, Try.ntmps16
  go_wp2
  go_ret
  exact ⟨w.heap.size, rfl, hS.alloc _⟩

set_option maxHeartbeats 400000 in
theorem pnew {w : World} {Rs : List Res} (hS : Sat w Rs) : Calls Try.prog 9 #[] w fun e w' => ∃ d c, e = .returned (.pointer (some ⟨d, 0, none⟩)) ∧ Sat w' (dec d c 0 0 :: chk c (.slice none 0 0) 0 :: Rs) := by
  go_enter Try.func9, Try.ntmps9
  go_wp2_with (go_at_call 16; refine (cnew hS).mono ?_; rintro e w' ⟨c, rfl, hS'⟩)
  go_ret
  exact ⟨w'.heap.size, c, rfl, hS'.alloc _⟩

theorem chk_cells {w : World} {c : Nat} {Rs : List Res} {held : Value} {e : Int} (hS : Sat w (chk c held e :: Rs)) :
    w.cell? ⟨c, 0, none⟩ = some (.int .i64 0) ∧ w.cell? ⟨c, 1, none⟩ = some held ∧ w.cell? ⟨c, 6, none⟩ = some (.int .i64 e) ∧ w.frozen? ⟨c, 1, none⟩ = false ∧ w.frozen? ⟨c, 6, none⟩ = false ∧ c < w.heap.size := by
  have h := hS.heap
  exact ⟨by rw [cell_of_row w c 0 _ _ _ h]; rfl, by rw [cell_of_row w c 1 _ _ _ h]; rfl, by rw [cell_of_row w c 6 _ _ _ h]; rfl, frozen_of_row w c 1 _ _ h, frozen_of_row w c 6 _ _ h, (Array.getElem?_eq_some_iff.1 h).1⟩

set_option maxRecDepth 100000 in
set_option maxHeartbeats 400000 in
theorem cpush_none {w : World} {Rs : List Res} {c cap : Nat} {ao : Option Addr} (hS : Sat w (chk c (.slice none 0 0) 0 :: Rs)) :
    Calls Try.prog 11 #[.pointer (some ⟨c, 0, none⟩), .slice ao 0 cap] w fun e w' => e = .returned (.tuple #[.slice none 0 0, .int .i64 0]) ∧ Sat w' (chk c (.slice none 0 0) 0 :: Rs) := by
  obtain ⟨c0, c1, c6, f1, f6, hc⟩ := chk_cells hS
  go_enter Try.func11, Try.ntmps11
  go_wp2
  go_step3
  go_wp2
  go_step3
  go_wp2
  go_rounds 1
  go_quiet (fail)
  go_wp2
  rw [Exit.noGoto_ret]
  go_ret2
  exact ⟨rfl, ((hS.alloc_drop _).alloc_drop _).drewN _⟩

set_option maxRecDepth 100000 in
set_option maxHeartbeats 400000 in
theorem cpush_bad {w : World} {Rs : List Res} {c cap b : Nat} {ao : Option Addr} (hS : Sat w (chk c (.slice ao 1 cap) 0 :: Rs)) (hb : w.cell? ⟨b, 0, none⟩ = some (.int .u8 138)) (hbs : b < w.heap.size) :
    Calls Try.prog 11 #[.pointer (some ⟨c, 0, none⟩), .slice (some ⟨b, 0, none⟩) 1 1] w fun e w' => e = .returned (.tuple #[.slice none 0 0, .int .i64 3]) ∧ Sat w' (chk c (.slice ao 1 cap) 3 :: Rs) := by
  obtain ⟨c0, c1, c6, f1, f6, hc⟩ := chk_cells hS
  go_enter Try.func11, Try.ntmps11
  go_wp2
  go_step3
  go_wp2
  go_step3
  go_wp2
  go_rounds 1
  go_quiet (fail)
  go_wp2
  have h2 : Sat _ (chk c (.slice ao 1 cap) 3 :: Rs) := (((hS.alloc_drop (Obj.cells #[Value.pointer (some { block := c, off := 0 })] 47)).alloc_drop (Obj.cells #[Value.slice none 0 0] 51)).drewN nq).setCell (i := 6) (.int .i64 3)
  obtain ⟨-, -, e6, -, -, -⟩ := chk_cells h2
  go_quiet (fail)
  go_wp2
  rw [Exit.noGoto_ret]
  go_ret2
  exact ⟨rfl, h2.drewN _⟩

set_option maxRecDepth 100000 in
set_option maxHeartbeats 400000 in
theorem cpush_good {w : World} {Rs : List Res} {c b : Nat} (hS : Sat w (chk c (.slice none 0 0) 0 :: blk b (.cells #[.int .u8 137] 5 (0, 0)) :: Rs)) :
    Calls Try.prog 11 #[.pointer (some ⟨c, 0, none⟩), .slice (some ⟨b, 0, none⟩) 1 1] w fun e w' => e = .returned (.tuple #[.slice none 0 0, .int .i64 0]) ∧ ∃ ao cap, Sat w' (chk c (.slice ao 1 cap) 0 :: blk b (.cells #[.int .u8 137] 5 (0, 0)) :: Rs) := by
  obtain ⟨c0, c1, c6, f1, f6, hc⟩ := chk_cells hS
  have q2 := (hS.at_ 1 _ rfl).choose_spec.2
  have hb : w.cell? ⟨b, 0, none⟩ = some (.int .u8 137) := by rw [cell_of_row w b 0 _ _ _ q2]; rfl
  have hbs : b < w.heap.size := Go.Clock.block_lt hb
  clear q2
  go_enter Try.func11, Try.ntmps11
  go_wp2
  go_step3
  go_wp2
  go_step3
  go_wp2
  refine wp_loop_rounds 2 ?_
  rw [rounds_succ]
  go_wp2
  go_quiet (fail)
  go_wp2
  have hA : Sat _ (blk (w.alloc (Obj.cells #[Value.pointer (some { block := c, off := 0 })] 47)).heap.size _ :: blk w.heap.size _ :: chk c (.slice none 0 0) 0 :: blk b (.cells #[.int .u8 137] 5 (0, 0)) :: Rs) := ((hS.alloc (Obj.cells #[Value.pointer (some { block := c, off := 0 })] 47)).alloc (Obj.cells #[Value.slice none 0 0] 51)).drewN nq
  rw [show (w.alloc (Obj.cells #[Value.pointer (some { block := c, off := 0 })] 47)).heap.size = w.heap.size + 1 by simp] at hA
  generalize (((w.alloc (Obj.cells #[Value.pointer (some { block := c, off := 0 })] 47)).alloc (Obj.cells #[Value.slice none 0 0] 51)).drewN nq) = WA at hA ⊢
  have q0 := (hA.at_ 1 _ rfl).choose_spec.2
  have q1 := (hA.at_ 2 _ rfl).choose_spec.2
  have q2 := (hA.at_ 3 _ rfl).choose_spec.2
  have q3 := (hA.at_ 0 _ rfl).choose_spec.2
  have r0 : WA.cell? ⟨w.heap.size, 0, none⟩ = some (.pointer (some ⟨c, 0, none⟩)) := by rw [cell_of_row WA _ 0 _ _ _ q0]; rfl
  have r1 : WA.cell? ⟨c, 1, none⟩ = some (.slice none 0 0) := by rw [cell_of_row WA _ 1 _ _ _ q1]; rfl
  have r2 : WA.cell? ⟨b, 0, none⟩ = some (.int .u8 137) := by rw [cell_of_row WA _ 0 _ _ _ q2]; rfl
  have r3 : WA.frozen? ⟨c, 1, none⟩ = false := frozen_of_row WA c 1 _ _ q1
  have r4 : WA.cell? ⟨w.heap.size + 1, 0, none⟩ = some (.slice none 0 0) := by rw [cell_of_row WA _ 0 _ _ _ q3]; rfl
  have r5 : WA.cell? ⟨c, 0, none⟩ = some (.int .i64 0) := by rw [cell_of_row WA _ 0 _ _ _ q1]; rfl
  have r6 : WA.cell? ⟨c, 6, none⟩ = some (.int .i64 0) := by rw [cell_of_row WA _ 6 _ _ _ q1]; rfl
  have hbw : b < WA.heap.size := Go.Clock.block_lt r2
  have hcw : c < WA.heap.size := Go.Clock.block_lt r1
  have hrw : w.heap.size < WA.heap.size := Go.Clock.block_lt r0
  have how : w.heap.size + 1 < WA.heap.size := Go.Clock.block_lt r4
  have hrc : w.heap.size ≠ c := hA.apart 1 2 rfl rfl (by decide) (blk_owns _ _) (blk_owns _ _)
  have hoc : w.heap.size + 1 ≠ c := hA.apart 0 2 rfl rfl (by decide) (blk_owns _ _) (blk_owns _ _)
  clear q0 q1 q2 q3 c0 c1 c6 f1 f6 hc hS hb hbs
  generalize w.heap.size + 1 = ob at r4 how hoc hA ⊢
  generalize w.heap.size = rb at r0 hrw hrc hA ⊢
  have hcap : ¬ (281474976710656 < Builtin.nextslicecap 1 0 * Try.t5.bytes) := by decide +kernel
  go_region
  generalize ((Question.appendCap 1 0 5).cut (WA.tape (WA.drawn + 1) (Question.appendCap 1 0 5))) = cap
  go_wp2
  have hB : Sat ((((WA.setCell ⟨c, 1, none⟩ (.slice (some ⟨WA.heap.size + 1, 0, none⟩) 1 cap)).alloc (Obj.cells #[Value.int IntKind.u8 137] 5)).alloc (Obj.cells (#[Value.int IntKind.u8 137] ++ Builtin.zeroCells #[Value.int IntKind.u8 0] (cap - 1)) 5)).drew.drew)
      (chk c (.slice (some ⟨WA.heap.size + 1, 0, none⟩) 1 cap) 0 :: blk rb (Obj.cells #[Value.pointer (some { block := c, off := 0 })] 47) :: blk ob (Obj.cells #[Value.slice none 0 0] 51) :: blk b (.cells #[.int .u8 137] 5 (0, 0)) :: Rs) :=
    ((((Sat.perm (As := [_, _, _, _]) hA [2, 1, 0, 3] [_, _, _, _] rfl (by simp)).setCell (i := 1) _).alloc_drop _).alloc_drop _).drew.drew
  generalize ((((WA.setCell ⟨c, 1, none⟩ (.slice (some ⟨WA.heap.size + 1, 0, none⟩) 1 cap)).alloc (Obj.cells #[Value.int IntKind.u8 137] 5)).alloc (Obj.cells (#[Value.int IntKind.u8 137] ++ Builtin.zeroCells #[Value.int IntKind.u8 0] (cap - 1)) 5)).drew.drew) = WB at hB ⊢
  clear r0 r1 r2 r3 r4 r5 r6
  obtain ⟨c0, c1, c6, -, -, -⟩ := chk_cells hB
  have r0 : WB.cell? ⟨rb, 0, none⟩ = some (.pointer (some ⟨c, 0, none⟩)) := by rw [cell_of_row WB _ 0 _ _ _ (hB.at_ 1 _ rfl).choose_spec.2]; rfl
  have r4 : WB.cell? ⟨ob, 0, none⟩ = some (.slice none 0 0) := by rw [cell_of_row WB _ 0 _ _ _ (hB.at_ 2 _ rfl).choose_spec.2]; rfl
  rw [rounds_succ]
  go_wp2
  go_quiet (fail)
  go_wp2
  rw [Exit.noGoto_ret]
  go_ret2
  exact ⟨rfl, _, _, (Sat.perm (As := [_, _, _, _]) hB [0, 3] [_, _] rfl (by simp)).drewN _⟩

end Go.Proofs.Ytelmbpgiehdnnaa
