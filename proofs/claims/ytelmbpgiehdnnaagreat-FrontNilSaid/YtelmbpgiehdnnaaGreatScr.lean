/- screen.Read of the two bytes "GI". -/
import Derived.Test.YtelmbpgiehdnnaaGreatOct
import Derived.Laws.Rows
import Derived.Laws.ResultCell
import Derived.OwnWalk
import Derived.Laws.IdiomStrings
namespace Go.Proofs.YtelmbpgiehdnnaaGreat
open Go.RowKit Go.Hal
set_option linter.unusedVariables false
set_option linter.unusedSimpArgs false

def screenC (c : Int) : Array Value := #[.int .i64 0, .int .i64 0, .slice none 0 0, .bool false, .int .i64 c, .bool false, .int .i64 0]

theorem screen_cells {w : World} {r : Nat} {Rs : List Res} (hS : Sat w (blk r (.cells (screenC 0) 226) :: Rs)) :
    w.cell? ⟨r, 0, none⟩ = some (.int .i64 0) ∧ w.cell? ⟨r, 1, none⟩ = some (.int .i64 0) ∧ w.cell? ⟨r, 2, none⟩ = some (.slice none 0 0) ∧ w.cell? ⟨r, 3, none⟩ = some (.bool false) ∧ w.cell? ⟨r, 4, none⟩ = some (.int .i64 0) ∧ w.cell? ⟨r, 5, none⟩ = some (.bool false) ∧ w.cell? ⟨r, 6, none⟩ = some (.int .i64 0) ∧ (∀ i, w.frozen? ⟨r, i, none⟩ = false) ∧ r < w.heap.size := by
  have h := hS.heap
  exact ⟨by rw [cell_of_row w r 0 _ _ _ h]; rfl, by rw [cell_of_row w r 1 _ _ _ h]; rfl, by rw [cell_of_row w r 2 _ _ _ h]; rfl, by rw [cell_of_row w r 3 _ _ _ h]; rfl, by rw [cell_of_row w r 4 _ _ _ h]; rfl, by rw [cell_of_row w r 5 _ _ _ h]; rfl, by rw [cell_of_row w r 6 _ _ _ h]; rfl, fun i => frozen_of_row w r i _ _ h, (Array.getElem?_eq_some_iff.1 h).1⟩

theorem cell_tmp2_run {fn : Func} {p u v : Tmp} {ty : TypeId} {P : Program} (h : fn.results = #[.cell p ty, .tmp u, .tmp v]) {tmps : Array Value} {w : World} {g : Nat} {c x y : Value}
    (hp : tmps.getD p undef = .pointer (some ⟨g, 0, none⟩)) (hx : tmps.getD u undef = x) (hy : tmps.getD v undef = y) (hl : (loadVar ty ⟨g, 0, none⟩).run P w = .ok c w) :
    (results fn tmps).run P w = .ok (.tuple #[c, x, y]) w := by
  simp only [results, h]
  simp only [Array.getD_eq_getD_getElem?] at hp hx hy
  simp [Sem.run_bind, Result.andThen, hp, hx, hy, asAddr, hl]

set_option maxRecDepth 100000 in
set_option maxHeartbeats 1000000 in
theorem sread {w : World} {v : Value} {Rs : List Res} (hS : Sat w (sl 5 1 2 v [.int .u8 71, .int .u8 73] :: Rs)) :
    Calls Tryz.prog 133 #[v] w fun e w' => e = .returned (.tuple #[.agg (screenC 0), .int .i64 0, .int .i64 2]) ∧ Sat w' (sl 5 1 2 v [.int .u8 71, .int .u8 73] :: Rs) := by
  obtain ⟨b, off, cap, rfl, h1, h2, hb, hc, -⟩ := hS.sl_cells (by decide)
  unfold maxLen at h2
  have h1' : (2 : Int) ≤ (cap : Int) := by omega
  have h3 : (cap : Int) ≤ 9223372036854775807 := by omega
  have hA := hS.alloc (.cells (screenC 0) 226)
  have hconv : (convert 22 9 (.slice (some ⟨b, off, none⟩) 2 cap)).run Tryz.prog (w.alloc (.cells (screenC 0) 226)).drew = .ok (.string ⟨#[71, 73]⟩) (w.alloc (.cells (screenC 0) 226)).drew := by
    have h := hA.swap.drew
    obtain ⟨b', off', cap', he, -, -, -, hc', -⟩ := h.sl_cells (by decide)
    simp only [Value.slice.injEq, Option.some.injEq, Addr.mk.injEq, and_true, true_and] at he
    obtain ⟨⟨rfl, rfl⟩, rfl⟩ := he
    exact run_convert_bytes_back _ _ _ 5 ⟨b, off, none⟩ cap [71, 73] Tryz.underlying22 (by kernel_rfl) (by kernel_rfl) (fun j hj => by
      rw [Addr.add_lit]
      match j, hj with
      | 0, _ => exact hc' 0 _ rfl
      | 1, _ => exact hc' 1 _ rfl)
  clear hc
  have hstr : (([71, 73] : List UInt8) == (ByteArray.extract ⟨#[71, 73, 70, 56, 57, 97]⟩ 0 2).toList) = true := by decide +kernel
  go_enter Tryz.func133, Tryz.ntmps133
  go_wp2
  go_step3
  go_wp2
  unfold screenC at hA hconv
  generalize (w.alloc (Obj.cells #[.int .i64 0, .int .i64 0, .slice none 0 0, .bool false, .int .i64 0, .bool false, .int .i64 0] 226)) = W at hA hconv ⊢
  generalize w.heap.size = rb at hA ⊢
  go_region
  have k1 := onew (Sat.perm (As := [_, _]) hA.drew [1, 0] [_, _] rfl (by simp))
  go_wp2_with (go_at_call 79; refine k1.mono ?_; rintro e w1 ⟨k, ao, c2, rfl, h2⟩)
  clear k1
  go_wp2_with (go_at_call 140; refine (obytes h2).mono ?_; rintro e w2 ⟨rfl, h3⟩)
  have g0 := (Sat.perm (As := [_, _, _]) h3 [0, 1, 2] [_, _, _] rfl (by simp)).alloc (Obj.cells #[.int .i64 0, .int .i64 0, .slice none 0 0, .bool false, .int .i64 (-1), .bool false, .int .i64 0] 226)
  have g1 := Sat.perm (As := [_, _, _, _]) g0 [1, 0, 2, 3] [_, _, _, _] rfl (by simp)
  have g2 := Sat.perm (As := [_, _, _, _, _]) (g1.alloc (Obj.cells #[.int .i64 0, .int .i64 0, .int .i64 0, .int .i64 0] 235)) [1, 2, 0, 3, 4] [_, _, _, _, _] rfl (by simp)
  clear h2 g0 hA hconv hS
  obtain ⟨y0, y1, y2, y3, y4, y5, y6, fz, hrb⟩ := screen_cells (h3.front 2 _ rfl)
  have f0 := fz 0
  have f1 := fz 1
  have f2 := fz 2
  have f3 := fz 3
  have f4 := fz 4
  have f5 := fz 5
  have f6 := fz 6
  clear fz
  simp only [List.cons_append, List.nil_append] at g1 g2
  go_wp2_with (first
    | (go_at_call 141; first | (refine (olittle h3).mono ?_; rintro e w' ⟨rfl, rfl⟩) | (refine (olittle g1).mono ?_; rintro e w' ⟨rfl, rfl⟩) | (refine (olittle g2).mono ?_; rintro e w' ⟨rfl, rfl⟩))
    | (go_at_call 81; first | (refine (oerr g1).mono ?_; rintro e w' ⟨rfl, rfl⟩) | (refine (oerr g2).mono ?_; rintro e w' ⟨rfl, rfl⟩))
    | (go_at_call 118; first | (refine (ofail_no g1).mono ?_; rintro e w' ⟨rfl, rfl⟩) | (refine (ofail_no g2).mono ?_; rintro e w' ⟨rfl, rfl⟩))
    | (go_at_call 143; refine table_none.mono ?_; rintro e w' ⟨rfl, rfl⟩))
  go_step3
  go_wp2_with (first
    | (go_at_call 141; first | (refine (olittle h3).mono ?_; rintro e w' ⟨rfl, rfl⟩) | (refine (olittle g1).mono ?_; rintro e w' ⟨rfl, rfl⟩) | (refine (olittle g2).mono ?_; rintro e w' ⟨rfl, rfl⟩))
    | (go_at_call 81; first | (refine (oerr g1).mono ?_; rintro e w' ⟨rfl, rfl⟩) | (refine (oerr g2).mono ?_; rintro e w' ⟨rfl, rfl⟩))
    | (go_at_call 118; first | (refine (ofail_no g1).mono ?_; rintro e w' ⟨rfl, rfl⟩) | (refine (ofail_no g2).mono ?_; rintro e w' ⟨rfl, rfl⟩))
    | (go_at_call 143; refine table_none.mono ?_; rintro e w' ⟨rfl, rfl⟩))
  refine wp_loop_rounds 1 ?_
  rw [rounds_succ]
  go_wp2_with (first
    | (go_at_call 141; first | (refine (olittle h3).mono ?_; rintro e w' ⟨rfl, rfl⟩) | (refine (olittle g1).mono ?_; rintro e w' ⟨rfl, rfl⟩) | (refine (olittle g2).mono ?_; rintro e w' ⟨rfl, rfl⟩))
    | (go_at_call 81; first | (refine (oerr g1).mono ?_; rintro e w' ⟨rfl, rfl⟩) | (refine (oerr g2).mono ?_; rintro e w' ⟨rfl, rfl⟩))
    | (go_at_call 118; first | (refine (ofail_no g1).mono ?_; rintro e w' ⟨rfl, rfl⟩) | (refine (ofail_no g2).mono ?_; rintro e w' ⟨rfl, rfl⟩))
    | (go_at_call 143; refine table_none.mono ?_; rintro e w' ⟨rfl, rfl⟩))
  have h6 := ((((((((((h3.front 2 _ rfl).setCell (i := 0) (.int .i64 0)).setCell (i := 1) (.int .i64 0)).setCell (i := 2) (.slice none 0 0)).setCell (i := 3) (.bool false)).setCell (i := 4) (.int .i64 0)).setCell (i := 5) (.bool false)).setCell (i := 6) (.int .i64 0)).alloc_drop (Obj.cells #[.int .i64 0, .int .i64 0, .slice none 0 0, .bool false, .int .i64 (-1), .bool false, .int .i64 0] 226)).alloc_drop (Obj.cells #[.int .i64 0, .int .i64 0, .int .i64 0, .int .i64 0] 235))
  rw [Exit.noGoto_ret]
  exact bodyPost_ret (cell_tmp2_run rfl rfl rfl rfl (run_loadVar_row _ _ 226 226 (screenC 0) (0, 0) _ h6.heap rfl rfl rfl)) rfl ⟨rfl, h6.tail.tail⟩

end Go.Proofs.YtelmbpgiehdnnaaGreat
