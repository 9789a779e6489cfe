/- front.Front at its first bytes, and nil. -/
import Derived.Test.YtelmbpgiehdnnaaGreatGif
import Derived.Deep.RegionHeld3
namespace Go.Proofs.YtelmbpgiehdnnaaGreat
open Go.RowKit Go.Hal
set_option linter.unusedVariables false
set_option linter.unusedSimpArgs false

abbrev fr (f : Nat) (iv : Value) (wv : Bool) (e : Int) : Res := blk f (.cells #[iv, .bool wv, .int .i64 e] 44 (0, 0))
theorem fr_cells {w : World} {f : Nat} {iv : Value} {wv : Bool} {e : Int} {Rs : List Res} (hS : Sat w (fr f iv wv e :: Rs)) :
    w.cell? ⟨f, 0, none⟩ = some iv ∧ w.cell? ⟨f, 1, none⟩ = some (.bool wv) ∧ w.cell? ⟨f, 2, none⟩ = some (.int .i64 e) ∧ w.frozen? ⟨f, 0, none⟩ = false ∧ w.frozen? ⟨f, 1, none⟩ = false ∧ w.frozen? ⟨f, 2, none⟩ = false ∧ f < w.heap.size := by
  have h := hS.heap
  exact ⟨by rw [cell_of_row w f 0 _ _ _ h]; rfl, by rw [cell_of_row w f 1 _ _ _ h]; rfl, by rw [cell_of_row w f 2 _ _ _ h]; rfl, frozen_of_row w f 0 _ _ h, frozen_of_row w f 1 _ _ h, frozen_of_row w f 2 _ _ h, (Array.getElem?_eq_some_iff.1 h).1⟩

theorem fnew {w : World} {Rs : List Res} (hS : Sat w Rs) : Calls Tryz.prog 11 #[] w fun e w' => ∃ f, e = .returned (.pointer (some ⟨f, 0, none⟩)) ∧ Sat w' (fr f .nilIface false 0 :: Rs) := by
  go_enter Tryz.func11, Tryz.ntmps11
  go_wp2
  go_ret
  exact ⟨w.heap.size, rfl, hS.alloc _⟩

set_option maxHeartbeats 400000 in
theorem fpush_none {w : World} {f : Nat} {Rs : List Res} (hS : Sat w (fr f .nilIface false 0 :: Rs)) :
    Calls Tryz.prog 5 #[.pointer (some ⟨f, 0, none⟩), .slice none 0 0] w fun e w' => e = .returned (.tuple #[.slice none 0 0, .int .i64 0]) ∧ Sat w' (fr f .nilIface false 0 :: Rs) := by
  obtain ⟨c0, c1, c2, f0, f1, f2, hf⟩ := fr_cells hS
  go_enter Tryz.func5, Tryz.ntmps5
  go_wp2
  go_quiet (fail)
  go_wp2
  go_ret2
  exact ⟨rfl, hS.drewN _⟩

set_option maxHeartbeats 400000 in
theorem fpush_bad {w : World} {f b : Nat} {Rs : List Res} (hS : Sat w (fr f .nilIface false 0 :: blk b (.cells #[.int .u8 1] 5 (0, 0)) :: Rs)) :
    Calls Tryz.prog 5 #[.pointer (some ⟨f, 0, none⟩), .slice (some ⟨b, 0, none⟩) 1 1] w fun e w' => e = .returned (.tuple #[.slice none 0 0, .int .i64 3]) ∧ Sat w' (fr f .nilIface false 3 :: Rs) := by
  obtain ⟨c0, c1, c2, f0, f1, f2, hf⟩ := fr_cells hS
  have hb := (hS.at_ 1 _ rfl).choose_spec.2
  have b0 : w.cell? ⟨b, 0, none⟩ = some (.int .u8 1) := by rw [cell_of_row w b 0 _ _ _ hb]; rfl
  have h2 : Sat (w.setCell ⟨f, 2, none⟩ (.int .i64 3)) (fr f .nilIface false 3 :: Rs) := (hS.setCell (i := 2) (.int .i64 3)).swap.tail
  obtain ⟨-, -, e2, -, -, -, -⟩ := fr_cells h2
  clear hb
  go_enter Tryz.func5, Tryz.ntmps5
  go_wp2
  go_quiet (fail)
  go_wp2
  go_ret2
  exact ⟨rfl, h2.drewN _⟩

theorem fdone_nil (w : World) : Calls Tryz.prog 7 #[.pointer none] w fun e w' => e = .returned (.bool false) ∧ w' = w := by
  go_enter Tryz.func7, Tryz.ntmps7
  go_wp2
  go_ret
  exact ⟨rfl, rfl⟩
theorem ftold_nil (w : World) : Calls Tryz.prog 8 #[.pointer none] w fun e w' => e = .returned (.int .i64 0) ∧ w' = w := by
  go_enter Tryz.func8, Tryz.ntmps8
  go_wp2
  go_ret
  exact ⟨rfl, rfl⟩
theorem fwoven_nil (w : World) : Calls Tryz.prog 9 #[.pointer none] w fun e w' => e = .returned (.bool false) ∧ w' = w := by
  go_enter Tryz.func9, Tryz.ntmps9
  go_wp2
  go_ret
  exact ⟨rfl, rfl⟩
theorem fpush_nil (w : World) (v : Value) : Calls Tryz.prog 5 #[.pointer none, v] w fun e w' => e = .returned (.tuple #[.slice none 0 0, .int .i64 1]) ∧ w' = w := by
  go_enter Tryz.func5, Tryz.ntmps5
  go_wp2
  go_ret2
  exact ⟨rfl, rfl⟩
theorem fwoven {w : World} {f : Nat} {iv : Value} {Rs : List Res} (hS : Sat w (fr f iv true 0 :: Rs)) : Calls Tryz.prog 9 #[.pointer (some ⟨f, 0, none⟩)] w fun e w' => e = .returned (.bool true) ∧ w' = w := by
  obtain ⟨c0, c1, c2, f0, f1, f2, hf⟩ := fr_cells hS
  go_enter Tryz.func9, Tryz.ntmps9
  go_wp2
  go_ret
  exact ⟨rfl, rfl⟩
theorem fdone_none {w : World} {f : Nat} {Rs : List Res} (hS : Sat w (fr f .nilIface false 0 :: Rs)) : Calls Tryz.prog 7 #[.pointer (some ⟨f, 0, none⟩)] w fun e w' => e = .returned (.bool false) ∧ w' = w := by
  obtain ⟨c0, c1, c2, f0, f1, f2, hf⟩ := fr_cells hS
  go_enter Tryz.func7, Tryz.ntmps7
  go_wp2
  go_ret
  exact ⟨rfl, rfl⟩
theorem gdone {w : World} {g : Nat} {h : Value} {n : Int} {Rs : List Res} (hS : Sat w (gdec g h n :: Rs)) : Calls Tryz.prog 129 #[.pointer (some ⟨g, 0, none⟩)] w fun e w' => e = .returned (.bool false) ∧ w' = w := by
  obtain ⟨c0, c1, c16, c17, f1, f16, hg⟩ := gdec_cells hS
  go_enter Tryz.func129, Tryz.ntmps129
  go_wp2
  go_ret
  exact ⟨rfl, rfl⟩
set_option maxHeartbeats 400000 in
theorem fdone_gif {w : World} {f g : Nat} {h : Value} {n : Int} {Rs : List Res} (hS : Sat w (fr f (.iface 47 (.pointer (some ⟨g, 0, none⟩))) true 0 :: gdec g h n :: Rs)) : Calls Tryz.prog 7 #[.pointer (some ⟨f, 0, none⟩)] w fun e w' => e = .returned (.bool false) ∧ w' = w := by
  obtain ⟨c0, c1, c2, f0, f1, f2, hf⟩ := fr_cells hS
  go_enter Tryz.func7, Tryz.ntmps7
  go_wp2_with (go_at_call 129; refine (gdone (hS.front 1 _ rfl)).mono ?_; rintro e w' ⟨rfl, rfl⟩)
  go_ret
  exact ⟨rfl, rfl⟩

set_option maxRecDepth 100000 in
set_option maxHeartbeats 400000 in
theorem fpush_gif {w : World} {f : Nat} {v : Value} {Rs : List Res} (hS : Sat w (fr f .nilIface false 0 :: sl 5 1 2 v [.int .u8 71, .int .u8 73] :: Rs)) :
    Calls Tryz.prog 5 #[.pointer (some ⟨f, 0, none⟩), v] w fun e w' => e = .returned (.tuple #[.slice none 0 0, .int .i64 0]) ∧ ∃ g h, Sat w' (fr f (.iface 47 (.pointer (some ⟨g, 0, none⟩))) true 0 :: gdec g h 2 :: Rs) := by
  obtain ⟨c0, c1, c2, f0, f1, f2, hf⟩ := fr_cells hS
  obtain ⟨b, off, cap, rfl, h1, h2, hb, hc, -⟩ := hS.swap.sl_cells (by decide)
  have x0 := hc 0 _ rfl
  simp only [Nat.add_zero] at x0
  clear hc
  go_enter Tryz.func5, Tryz.ntmps5
  go_wp2_with (first
    | (go_at_call 13; refine (gnew hS).mono ?_; rintro e w1 ⟨g, rfl, g1⟩;
        have g2 := ((Sat.perm (As := [_, _, _]) g1 [1, 0, 2] [_, _, _] rfl (by simp)).setCell (i := 0) (.iface 47 (.pointer (some ⟨g, 0, none⟩)))).setCell (i := 1) (.bool true); obtain ⟨c0, c1, c2, f0, f1, f2, hf⟩ := fr_cells (g1.front 1 _ rfl); have k := gpush (Sat.perm (As := [_, _, _]) g2 [1, 2, 0] [_, _, _] rfl (by simp)); clear g2 hS)
    | (go_at_call 131; refine k.mono ?_; rintro e w2 ⟨rfl, h, g3⟩))
  go_ret2
  exact ⟨rfl, g, h, Sat.perm (As := [_, _, _]) g3 [2, 0] [_, _] rfl (by simp)⟩

end Go.Proofs.YtelmbpgiehdnnaaGreat
