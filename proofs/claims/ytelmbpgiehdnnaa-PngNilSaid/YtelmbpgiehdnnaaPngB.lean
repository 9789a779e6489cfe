/- png.Decoder at its first bytes, and nil. -/
import Derived.Test.YtelmbpgiehdnnaaPng
import Derived.Laws.Rows
import Derived.Laws.ResultCell
namespace Go.Proofs.Ytelmbpgiehdnnaa
open Go.RowKit Go.Hal
set_option linter.unusedVariables false
set_option linter.unusedSimpArgs false

theorem dec_cells {w : World} {d c : Nat} {Rs : List Res} {seen e : Int} (hS : Sat w (dec d c seen e :: Rs)) :
    w.cell? ⟨d, 19, none⟩ = some (.pointer (some ⟨c, 0, none⟩)) ∧ w.cell? ⟨d, 24, none⟩ = some (.bool false) ∧ w.cell? ⟨d, 25, none⟩ = some (.int .i64 seen) ∧ w.cell? ⟨d, 26, none⟩ = some (.int .i64 e) ∧
      w.frozen? ⟨d, 25, none⟩ = false ∧ w.frozen? ⟨d, 26, none⟩ = false ∧ d < w.heap.size := by
  have h := hS.heap
  exact ⟨by rw [cell_of_row w d 19 _ _ _ h]; rfl, by rw [cell_of_row w d 24 _ _ _ h]; rfl, by rw [cell_of_row w d 25 _ _ _ h]; rfl, by rw [cell_of_row w d 26 _ _ _ h]; rfl,
    frozen_of_row w d 25 _ _ h, frozen_of_row w d 26 _ _ h, (Array.getElem?_eq_some_iff.1 h).1⟩

set_option maxRecDepth 100000 in
set_option maxHeartbeats 400000 in
theorem ppush_ok {w : World} {Rs Rs' : List Res} {d c n cap seen : Nat} {ao : Option Addr} (hS : Sat w (dec d c seen 0 :: Rs)) (hn : n ≤ 1) (hs : seen ≤ 1)
    (hC : ∀ w' T, Sat w' (T :: Rs) → Calls Try.prog 11 #[.pointer (some ⟨c, 0, none⟩), .slice ao n cap] w' fun e w'' => e = .returned (.tuple #[.slice none 0 0, .int .i64 0]) ∧ Sat w'' (T :: Rs')) :
    Calls Try.prog 5 #[.pointer (some ⟨d, 0, none⟩), .slice ao n cap] w fun e w' => e = .returned (.tuple #[.slice none 0 0, .int .i64 0]) ∧ Sat w' (dec d c (seen + n) 0 :: Rs') := by
  obtain ⟨c0, c1, c2, c3, f2, f3, hd⟩ := dec_cells hS
  have hlong : decide ((1048576 : Int) - (seen : Int) < (n : Int)) = false := decide_eq_false (by omega)
  have h1 : IntKind.i64.wrap ((1048576 : Int) - (seen : Int)) = 1048576 - seen := by apply wraps_i64 <;> omega
  have h2 : IntKind.i64.wrap ((seen : Int) + (n : Int)) = seen + n := by apply wraps_i64 <;> omega
  have hS2 : Sat (w.setCell ⟨d, 25, none⟩ (.int .i64 (seen + n))) (dec d c (seen + n) 0 :: Rs) := hS.setCell (i := 25) _
  have hC2 := hC _ _ hS2
  clear hC
  go_enter Try.func5, Try.ntmps5
  go_wp2
  go_step3
  go_wp2_with (go_at_call 11; refine hC2.mono ?_; rintro e w' ⟨rfl, hS3⟩)
  go_step3
  obtain ⟨c0, c1, c2, c3, f2, f3, hd⟩ := dec_cells hS3
  go_wp2
  go_rounds 1
  go_quiet (fail)
  go_wp2
  rw [Exit.noGoto_ret]
  go_ret2
  exact ⟨rfl, hS3.drewN _⟩

set_option maxRecDepth 100000 in
set_option maxHeartbeats 400000 in
theorem ppush_bad {w : World} {Rs Rs' : List Res} {d c n cap seen : Nat} {ao : Option Addr} (hS : Sat w (dec d c seen 0 :: Rs)) (hn : n ≤ 1) (hs : seen ≤ 1)
    (hC : ∀ w' T, Sat w' (T :: Rs) → Calls Try.prog 11 #[.pointer (some ⟨c, 0, none⟩), .slice ao n cap] w' fun e w'' => e = .returned (.tuple #[.slice none 0 0, .int .i64 3]) ∧ Sat w'' (T :: Rs')) :
    Calls Try.prog 5 #[.pointer (some ⟨d, 0, none⟩), .slice ao n cap] w fun e w' => e = .returned (.tuple #[.slice none 0 0, .int .i64 3]) ∧ Sat w' (dec d c (seen + n) 3 :: Rs') := by
  obtain ⟨c0, c1, c2, c3, f2, f3, hd⟩ := dec_cells hS
  have hlong : decide ((1048576 : Int) - (seen : Int) < (n : Int)) = false := decide_eq_false (by omega)
  have h1 : IntKind.i64.wrap ((1048576 : Int) - (seen : Int)) = 1048576 - seen := by apply wraps_i64 <;> omega
  have h2 : IntKind.i64.wrap ((seen : Int) + (n : Int)) = seen + n := by apply wraps_i64 <;> omega
  have hS2 : Sat (w.setCell ⟨d, 25, none⟩ (.int .i64 (seen + n))) (dec d c (seen + n) 0 :: Rs) := hS.setCell (i := 25) _
  have hC2 := hC _ _ hS2
  clear hC
  go_enter Try.func5, Try.ntmps5
  go_wp2
  go_step3
  go_wp2_with (go_at_call 11; refine hC2.mono ?_; rintro e w' ⟨rfl, hS3⟩)
  go_step3
  obtain ⟨c0, c1, c2, c3, f2, f3, hd⟩ := dec_cells hS3
  go_wp2
  have hS4 : Sat (w'.setCell ⟨d, 26, none⟩ (.int .i64 3)) (dec d c (seen + n) 3 :: Rs') := hS3.setCell (i := 26) _
  obtain ⟨-, -, -, e3, -, -, -⟩ := dec_cells hS4
  go_rounds 1
  go_quiet (fail)
  go_wp2
  rw [Exit.noGoto_ret]
  go_ret2
  exact ⟨rfl, hS4.drewN _⟩

set_option maxRecDepth 100000 in
theorem ppush_nil (w : World) (v : Value) : Calls Try.prog 5 #[.pointer none, v] w fun e w' => e = .returned (.tuple #[.slice none 0 0, .int .i64 1]) ∧ w' = w := by
  go_enter Try.func5, Try.ntmps5
  go_wp2
  go_step3
  go_wp2
  rw [Exit.noGoto_ret]
  go_ret2
  exact ⟨rfl, rfl⟩

theorem pdone_nil (w : World) : Calls Try.prog 7 #[.pointer none] w fun e w' => e = .returned (.bool false) ∧ w' = w := by
  go_enter Try.func7, Try.ntmps7
  go_wp2
  go_ret
  exact ⟨rfl, rfl⟩

theorem ptold_nil (w : World) : Calls Try.prog 8 #[.pointer none] w fun e w' => e = .returned (.int .i64 0) ∧ w' = w := by
  go_enter Try.func8, Try.ntmps8
  go_wp2
  go_ret
  exact ⟨rfl, rfl⟩

theorem pdone_not {w : World} {d c : Nat} {seen : Int} {Rs : List Res} (hS : Sat w (dec d c seen 0 :: Rs)) : Calls Try.prog 7 #[.pointer (some ⟨d, 0, none⟩)] w fun e w' => e = .returned (.bool false) ∧ w' = w := by
  obtain ⟨c0, c1, c2, c3, f2, f3, hd⟩ := dec_cells hS
  go_enter Try.func7, Try.ntmps7
  go_wp2
  go_ret
  exact ⟨rfl, rfl⟩

def headC : Array Value := #[.int .i64 0, .int .i64 0, .int .i64 0, .int .i64 0, .bool false]
def rasterC : Array Value := #[.int .i64 0, .int .i64 0, .int .i64 0, .int .i64 0, .bool false, .slice none 0 0, .slice none 0 0, .slice none 0 0, .slice none 0 0]

theorem cell_tmp_run {fn : Func} {p u : Tmp} {ty : TypeId} {P : Program} (h : fn.results = #[.cell p ty, .tmp u]) {tmps : Array Value} {w : World} {g : Nat} {v x : Value}
    (hp : tmps.getD p undef = .pointer (some ⟨g, 0, none⟩)) (hx : tmps.getD u undef = x) (hl : (loadVar ty ⟨g, 0, none⟩).run P w = .ok v w) :
    (results fn tmps).run P w = .ok (.tuple #[v, x]) w := by
  rw [results_cell_tmp h, hp, hx]
  simp only [asAddr, Sem.run_pure, Result.andThen, hl]

theorem raster_cells {w : World} {r : Nat} {Rs : List Res} (hS : Sat w (blk r (.cells rasterC 39) :: Rs)) :
    w.cell? ⟨r, 0, none⟩ = some (.int .i64 0) ∧ w.cell? ⟨r, 1, none⟩ = some (.int .i64 0) ∧ w.cell? ⟨r, 2, none⟩ = some (.int .i64 0) ∧ w.cell? ⟨r, 3, none⟩ = some (.int .i64 0) ∧ w.cell? ⟨r, 4, none⟩ = some (.bool false) ∧ w.cell? ⟨r, 5, none⟩ = some (.slice none 0 0) ∧ w.cell? ⟨r, 6, none⟩ = some (.slice none 0 0) ∧ w.cell? ⟨r, 7, none⟩ = some (.slice none 0 0) ∧ w.cell? ⟨r, 8, none⟩ = some (.slice none 0 0) ∧ ∀ i, w.frozen? ⟨r, i, none⟩ = false := by
  have h := hS.heap
  exact ⟨by rw [cell_of_row w r 0 _ _ _ h]; rfl, by rw [cell_of_row w r 1 _ _ _ h]; rfl, by rw [cell_of_row w r 2 _ _ _ h]; rfl, by rw [cell_of_row w r 3 _ _ _ h]; rfl, by rw [cell_of_row w r 4 _ _ _ h]; rfl, by rw [cell_of_row w r 5 _ _ _ h]; rfl, by rw [cell_of_row w r 6 _ _ _ h]; rfl, by rw [cell_of_row w r 7 _ _ _ h]; rfl, by rw [cell_of_row w r 8 _ _ _ h]; rfl, fun i => frozen_of_row w r i _ _ h⟩

set_option maxRecDepth 100000 in
set_option maxHeartbeats 400000 in
theorem phead_nil {w : World} {Rs : List Res} (hS : Sat w Rs) : Calls Try.prog 6 #[.pointer none] w fun e w' => e = .returned (.tuple #[.agg headC, .bool false]) ∧ Sat w' Rs := by
  go_enter Try.func6, Try.ntmps6
  go_wp2
  exact bodyPost_ret (cell_tmp_run rfl rfl rfl (run_loadVar_row _ _ 30 30 headC (0, 0) _ (hS.alloc (.cells headC 30)).heap rfl rfl rfl)) rfl ⟨rfl, hS.alloc_drop _⟩

set_option maxRecDepth 100000 in
set_option maxHeartbeats 400000 in
theorem pread_nil {w : World} {Rs : List Res} (hS : Sat w Rs) : Calls Try.prog 10 #[.slice none 0 0] w fun e w' => e = .returned (.tuple #[.agg rasterC, .int .i64 2]) ∧ Sat w' Rs := by
  have h1 := hS.alloc (.cells rasterC 39)
  go_enter Try.func10, Try.ntmps10
  go_wp2_with (first
    | (go_at_call 9; refine (pnew h1).mono ?_; rintro e w1 ⟨d, c, rfl, h2⟩)
    | (go_at_call 5; refine (ppush_ok (n := 0) (seen := 0) h2 (by omega) (by omega) (fun w' T hT => cpush_none hT.swap |>.mono (by rintro e w'' ⟨rfl, h⟩; exact ⟨rfl, h.swap⟩))).mono ?_; rintro e w2 ⟨rfl, h3⟩)
    | (go_at_call 7; refine (pdone_not h3).mono ?_; rintro e w3 ⟨rfl, rfl⟩; obtain ⟨c0, c1, c2, c3, c4, c5, c6, c7, c8, fz⟩ := raster_cells (h3.front 2 _ rfl);
        have f0 := fz 0; have f1 := fz 1; have f2 := fz 2; have f3 := fz 3; have f4 := fz 4; have f5 := fz 5; have f6 := fz 6; have f7 := fz 7; have f8 := fz 8; clear fz))
  have h4 := (((((((((h3.front 2 _ rfl).setCell (i := 0) (.int .i64 0)).setCell (i := 1) (.int .i64 0)).setCell (i := 2) (.int .i64 0)).setCell (i := 3) (.int .i64 0)).setCell (i := 4) (.bool false)).setCell (i := 5) (.slice none 0 0)).setCell (i := 6) (.slice none 0 0)).setCell (i := 7) (.slice none 0 0)).setCell (i := 8) (.slice none 0 0)
  exact bodyPost_ret (cell_tmp_run rfl rfl rfl (run_loadVar_row _ _ 39 39 rasterC (0, 0) _ h4.heap rfl rfl rfl)) rfl ⟨rfl, h4.tail.tail.tail⟩

end Go.Proofs.Ytelmbpgiehdnnaa
