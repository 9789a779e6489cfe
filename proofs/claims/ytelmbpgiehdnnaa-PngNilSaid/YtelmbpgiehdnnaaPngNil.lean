/- halftonelaw16.PngNil: its walk. -/
import Derived.Test.YtelmbpgiehdnnaaPngB
namespace Go.Proofs.Ytelmbpgiehdnnaa
open Go.RowKit Go.Hal
set_option linter.unusedVariables false
set_option linter.unusedSimpArgs false

theorem pushA {w : World} {Rs : List Res} {d c b : Nat} (hS : Sat w (dec d c 0 0 :: chk c (.slice none 0 0) 0 :: blk b (.cells #[.int .u8 137] 5 (0, 0)) :: Rs)) :
    Calls Try.prog 5 #[.pointer (some ⟨d, 0, none⟩), .slice (some ⟨b, 0, none⟩) 1 1] w fun e w' => e = .returned (.tuple #[.slice none 0 0, .int .i64 0]) ∧ ∃ ao cap, Sat w' (dec d c 1 0 :: chk c (.slice ao 1 cap) 0 :: Rs) := by
  have hC : ∀ w' T, Sat w' (T :: chk c (.slice none 0 0) 0 :: blk b (.cells #[.int .u8 137] 5 (0, 0)) :: Rs) → Calls Try.prog 11 #[.pointer (some ⟨c, 0, none⟩), .slice (some ⟨b, 0, none⟩) 1 1] w'
      fun e w'' => e = .returned (.tuple #[.slice none 0 0, .int .i64 0]) ∧ Sat w'' (T :: (ex fun x : Option Addr × Nat => chk c (.slice x.1 1 x.2) 0) :: Rs) := by
    intro w' T hT
    have g : Sat w' (chk c (.slice none 0 0) 0 :: blk b (.cells #[.int .u8 137] 5 (0, 0)) :: T :: Rs) := Sat.perm (As := [T, _, _]) hT [1, 2, 0] [_, _, _] rfl (by simp)
    refine (cpush_good g).mono ?_
    rintro e w'' ⟨rfl, ao, cap, h⟩
    have h2 := Sat.ex_in (R := fun x : Option Addr × Nat => chk c (.slice x.1 1 x.2) 0) (ao, cap) h
    exact ⟨rfl, Sat.perm (As := [_, _, T]) h2 [2, 0] [_, _] rfl (by simp)⟩
  have k := ppush_ok (n := 1) (seen := 0) (cap := 1) (ao := some ⟨b, 0, none⟩) hS (by omega) (by omega) hC
  refine k.mono ?_
  rintro e w2 ⟨rfl, h3⟩
  obtain ⟨⟨ao, cap⟩, h4⟩ := h3.swap.ex_out
  exact ⟨rfl, ao, cap, h4.swap⟩

theorem pushB {w : World} {Rs : List Res} {d c b cap : Nat} {ao : Option Addr} (hS : Sat w (dec d c 1 0 :: chk c (.slice ao 1 cap) 0 :: blk b (.cells #[.int .u8 138] 5 (0, 0)) :: Rs)) :
    Calls Try.prog 5 #[.pointer (some ⟨d, 0, none⟩), .slice (some ⟨b, 0, none⟩) 1 1] w fun e w' => e = .returned (.tuple #[.slice none 0 0, .int .i64 3]) ∧ Sat w' Rs := by
  have hC : ∀ w' T, Sat w' (T :: chk c (.slice ao 1 cap) 0 :: blk b (.cells #[.int .u8 138] 5 (0, 0)) :: Rs) → Calls Try.prog 11 #[.pointer (some ⟨c, 0, none⟩), .slice (some ⟨b, 0, none⟩) 1 1] w'
      fun e w'' => e = .returned (.tuple #[.slice none 0 0, .int .i64 3]) ∧ Sat w'' (T :: Rs) := by
    intro w' T hT
    have g : Sat w' (chk c (.slice ao 1 cap) 0 :: blk b (.cells #[.int .u8 138] 5 (0, 0)) :: T :: Rs) := Sat.perm (As := [T, _, _]) hT [1, 2, 0] [_, _, _] rfl (by simp)
    have hb := (g.at_ 1 _ rfl).choose_spec.2
    refine (cpush_bad g (by rw [cell_of_row w' _ 0 _ _ _ hb]; rfl) (Array.getElem?_eq_some_iff.1 hb).1).mono ?_
    rintro e w'' ⟨rfl, h⟩
    exact ⟨rfl, h.tail.tail⟩
  have k := ppush_bad (n := 1) (seen := 1) (cap := 1) (ao := some ⟨b, 0, none⟩) hS (by omega) (by omega) hC
  refine k.mono ?_
  rintro e w2 ⟨rfl, h3⟩
  exact ⟨rfl, h3.tail⟩

theorem raster_new {w : World} {Rs : List Res} (hS : Sat w Rs) : Sat (((((((((((w.alloc (.cells rasterC 39)).setCell ⟨w.heap.size, 0, none⟩ (.int .i64 0)).setCell ⟨w.heap.size, 1, none⟩ (.int .i64 0)).setCell ⟨w.heap.size, 2, none⟩ (.int .i64 0)).setCell ⟨w.heap.size, 3, none⟩ (.int .i64 0)).setCell ⟨w.heap.size, 4, none⟩ (.bool false)).setCell ⟨w.heap.size, 5, none⟩ (.slice none 0 0)).setCell ⟨w.heap.size, 6, none⟩ (.slice none 0 0)).setCell ⟨w.heap.size, 7, none⟩ (.slice none 0 0)).setCell ⟨w.heap.size, 8, none⟩ (.slice none 0 0))) Rs :=
  ((((((((((hS.alloc (.cells rasterC 39)).setCell (i := 0) (.int .i64 0)).setCell (i := 1) (.int .i64 0)).setCell (i := 2) (.int .i64 0)).setCell (i := 3) (.int .i64 0)).setCell (i := 4) (.bool false)).setCell (i := 5) (.slice none 0 0)).setCell (i := 6) (.slice none 0 0)).setCell (i := 7) (.slice none 0 0)).setCell (i := 8) (.slice none 0 0)).tail

attribute [local simp, local go_sem] rasterC headC

set_option maxRecDepth 100000 in
set_option maxHeartbeats 400000 in
theorem fixed_true {w : World} {Rs : List Res} (hS : Sat w Rs) : Calls Try.prog 4 #[] w fun e w' => e = .returned (.bool true) ∧ Sat w' Rs := by
  go_enter Try.func4, Try.ntmps4
  go_wp2_with (go_at_call 9; refine (pnew hS).mono ?_; rintro e w1 ⟨d, c, rfl, h2⟩; have g2 := Sat.perm (As := [_, _, _]) (h2.alloc (Obj.cells #[.int .u8 137] 5)) [1, 2, 0] [_, _, _] rfl (by simp); simp only [List.cons_append, List.nil_append] at g2; have k2 := pushA g2; clear g2)
  go_wp2_with (go_at_call 5; refine k2.mono ?_; rintro e w2 ⟨rfl, ao, cap, h3⟩; have g3 := Sat.perm (As := [_, _, _]) (h3.alloc (Obj.cells #[.int .u8 138] 5)) [1, 2, 0] [_, _, _] rfl (by simp); simp only [List.cons_append, List.nil_append] at g3; have k3 := pushB g3; clear g3 k2)
  go_wp2_with (go_at_call 5; refine k3.mono ?_; rintro e w3 ⟨rfl, h4⟩; clear k3)
  go_wp2_with (go_at_call 10; refine (pread_nil h4).mono ?_; rintro e w5 ⟨rfl, h5⟩)
  go_ret
  exact ⟨rfl, h5.alloc_drop _⟩

set_option maxRecDepth 100000 in
set_option maxHeartbeats 400000 in
theorem pngnil_true {w : World} {Rs : List Res} (hS : Sat w Rs) (v : Value) : Calls Try.prog 3 #[v] w fun e w' => e = .returned (.bool true) ∧ Sat w' Rs := by
  go_enter Try.func3, Try.ntmps3
  go_wp2_with (go_at_call 4; refine (fixed_true hS).mono ?_; rintro e w1 ⟨rfl, h1⟩)
  go_wp2_with (go_at_call 5; refine (ppush_nil _ _).mono ?_; rintro e w2 ⟨rfl, rfl⟩)
  go_wp2_with (first
    | (go_at_call 6; refine (phead_nil h1).mono ?_; rintro e w3 ⟨rfl, h3⟩)
    | (go_at_call 7; refine (pdone_nil _).mono ?_; rintro e w4 ⟨rfl, rfl⟩)
    | (go_at_call 8; refine (ptold_nil _).mono ?_; rintro e w4 ⟨rfl, rfl⟩))
  go_ret
  exact ⟨rfl, h3.alloc_drop _⟩

end Go.Proofs.Ytelmbpgiehdnnaa
