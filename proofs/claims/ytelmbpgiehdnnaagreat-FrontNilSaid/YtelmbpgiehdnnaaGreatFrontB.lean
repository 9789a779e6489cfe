/- front.Check of nothing and of one wrong byte; FrontNil. -/
import Derived.Test.YtelmbpgiehdnnaaGreatFront
namespace Go.Proofs.YtelmbpgiehdnnaaGreat
open Go.RowKit Go.Hal
set_option linter.unusedVariables false
set_option linter.unusedSimpArgs false

def headC : Array Value := #[.int .i64 0, .int .i64 0, .int .i64 0, .int .i64 0, .bool false]
def imageC : Array Value := #[.int .i64 0, .int .i64 0, .slice none 0 0]
abbrev headB (b : Nat) : Res := blk b (.cells headC 30 (0, 0))
abbrev imageB (b : Nat) : Res := blk b (.cells imageC 37 (0, 0))
theorem head_cells {w : World} {r : Nat} {Rs : List Res} (hS : Sat w (headB r :: Rs)) :
    w.cell? ⟨r, 0, none⟩ = some (.int .i64 0) ∧ w.cell? ⟨r, 1, none⟩ = some (.int .i64 0) ∧ w.cell? ⟨r, 2, none⟩ = some (.int .i64 0) ∧ w.cell? ⟨r, 3, none⟩ = some (.int .i64 0) ∧ w.cell? ⟨r, 4, none⟩ = some (.bool false) ∧
    w.frozen? ⟨r, 0, none⟩ = false ∧ w.frozen? ⟨r, 1, none⟩ = false ∧ w.frozen? ⟨r, 2, none⟩ = false ∧ w.frozen? ⟨r, 3, none⟩ = false ∧ w.frozen? ⟨r, 4, none⟩ = false ∧ r < w.heap.size := by
  have h := hS.heap
  exact ⟨by rw [cell_of_row w r 0 _ _ _ h]; rfl, by rw [cell_of_row w r 1 _ _ _ h]; rfl, by rw [cell_of_row w r 2 _ _ _ h]; rfl, by rw [cell_of_row w r 3 _ _ _ h]; rfl, by rw [cell_of_row w r 4 _ _ _ h]; rfl,
    frozen_of_row w r 0 _ _ h, frozen_of_row w r 1 _ _ h, frozen_of_row w r 2 _ _ h, frozen_of_row w r 3 _ _ h, frozen_of_row w r 4 _ _ h, (Array.getElem?_eq_some_iff.1 h).1⟩
theorem image_cells {w : World} {r : Nat} {Rs : List Res} (hS : Sat w (imageB r :: Rs)) :
    w.cell? ⟨r, 0, none⟩ = some (.int .i64 0) ∧ w.cell? ⟨r, 1, none⟩ = some (.int .i64 0) ∧ w.cell? ⟨r, 2, none⟩ = some (.slice none 0 0) ∧
    w.frozen? ⟨r, 0, none⟩ = false ∧ w.frozen? ⟨r, 1, none⟩ = false ∧ w.frozen? ⟨r, 2, none⟩ = false ∧ r < w.heap.size := by
  have h := hS.heap
  exact ⟨by rw [cell_of_row w r 0 _ _ _ h]; rfl, by rw [cell_of_row w r 1 _ _ _ h]; rfl, by rw [cell_of_row w r 2 _ _ _ h]; rfl,
    frozen_of_row w r 0 _ _ h, frozen_of_row w r 1 _ _ h, frozen_of_row w r 2 _ _ h, (Array.getElem?_eq_some_iff.1 h).1⟩

theorem cell_mid_run {fn : Func} {p u v : Tmp} {ty : TypeId} {P : Program} (h : fn.results = #[.tmp u, .cell p ty, .tmp v]) {tmps : Array Value} {w : World} {g : Nat} {c x y : Value}
    (hp : tmps.getD p undef = .pointer (some ⟨g, 0, none⟩)) (hx : tmps.getD u undef = x) (hy : tmps.getD v undef = y) (hl : (loadVar ty ⟨g, 0, none⟩).run P w = .ok c w) :
    (results fn tmps).run P w = .ok (.tuple #[x, c, y]) w := by
  simp only [results, h]
  simp only [Array.getD_eq_getD_getElem?] at hp hx hy
  simp [Sem.run_bind, Result.andThen, hp, hx, hy, asAddr, hl]
theorem cell_tmp_run {fn : Func} {p u : Tmp} {ty : TypeId} {P : Program} (h : fn.results = #[.cell p ty, .tmp u]) {tmps : Array Value} {w : World} {g : Nat} {v x : Value}
    (hp : tmps.getD p undef = .pointer (some ⟨g, 0, none⟩)) (hx : tmps.getD u undef = x) (hl : (loadVar ty ⟨g, 0, none⟩).run P w = .ok v w) :
    (results fn tmps).run P w = .ok (.tuple #[v, x]) w := by
  rw [results_cell_tmp h, hp, hx]
  simp only [asAddr, Sem.run_pure, Result.andThen, hl]

set_option maxRecDepth 100000 in
set_option maxHeartbeats 400000 in
theorem fhead_nil {w : World} {Rs : List Res} (hS : Sat w Rs) : Calls Tryz.prog 6 #[.pointer none] w fun e w' => e = .returned (.tuple #[.agg headC, .bool false]) ∧ Sat w' Rs := by
  go_enter Tryz.func6, Tryz.ntmps6
  go_wp2
  exact bodyPost_ret (cell_tmp_run rfl rfl rfl (run_loadVar_row _ _ 30 30 headC (0, 0) _ (hS.alloc (.cells headC 30)).heap rfl rfl rfl)) rfl ⟨rfl, hS.alloc_drop _⟩

set_option maxRecDepth 100000 in
set_option maxHeartbeats 400000 in
theorem whole_none {w : World} {Rs : List Res} (hS : Sat w Rs) : Calls Tryz.prog 14 #[.slice none 0 0] w fun e w' => e = .returned (.tuple #[.slice none 0 0, .agg headC, .int .i64 2]) ∧ Sat w' Rs := by
  have h1 := hS.alloc (.cells headC 30)
  go_enter Tryz.func14, Tryz.ntmps14
  go_wp2_with (go_at_call 11; refine (fnew h1).mono ?_; rintro e w1 ⟨f, rfl, h2⟩)
  go_wp2_with (go_at_call 5; refine (fpush_none h2).mono ?_; rintro e w2 ⟨rfl, h3⟩)
  go_wp2_with (go_at_call 7; refine (fdone_none h3).mono ?_; rintro e w3 ⟨rfl, rfl⟩; obtain ⟨y0, y1, y2, y3, y4, z0, z1, z2, z3, z4, hr⟩ := head_cells (h3.front 1 _ rfl))
  have h4 := ((((((h3.front 1 _ rfl).setCell (i := 0) (.int .i64 0)).setCell (i := 1) (.int .i64 0)).setCell (i := 2) (.int .i64 0)).setCell (i := 3) (.int .i64 0)).setCell (i := 4) (.bool false))
  exact bodyPost_ret (cell_mid_run rfl rfl rfl rfl (run_loadVar_row _ _ 30 30 headC (0, 0) _ h4.heap rfl rfl rfl)) rfl ⟨rfl, h4.tail.tail⟩

set_option maxRecDepth 100000 in
set_option maxHeartbeats 400000 in
theorem whole_bad {w : World} {b : Nat} {Rs : List Res} (hS : Sat w (blk b (.cells #[.int .u8 1] 5 (0, 0)) :: Rs)) : Calls Tryz.prog 14 #[.slice (some ⟨b, 0, none⟩) 1 1] w fun e w' => e = .returned (.tuple #[.slice none 0 0, .agg headC, .int .i64 3]) ∧ Sat w' Rs := by
  have h1 := (hS.alloc (.cells headC 30)).swap
  go_enter Tryz.func14, Tryz.ntmps14
  go_wp2_with (go_at_call 11; refine (fnew h1).mono ?_; rintro e w1 ⟨f, rfl, h2⟩)
  go_wp2_with (go_at_call 5; refine (fpush_bad h2).mono ?_; rintro e w3 ⟨rfl, h3⟩; obtain ⟨y0, y1, y2, y3, y4, z0, z1, z2, z3, z4, hr⟩ := head_cells (h3.front 1 _ rfl))
  have h4 := ((((((h3.front 1 _ rfl).setCell (i := 0) (.int .i64 0)).setCell (i := 1) (.int .i64 0)).setCell (i := 2) (.int .i64 0)).setCell (i := 3) (.int .i64 0)).setCell (i := 4) (.bool false))
  exact bodyPost_ret (cell_mid_run rfl rfl rfl rfl (run_loadVar_row _ _ 30 30 headC (0, 0) _ h4.heap rfl rfl rfl)) rfl ⟨rfl, h4.tail.tail⟩

attribute [local simp, local go_sem] headC imageC

set_option maxRecDepth 100000 in
set_option maxHeartbeats 400000 in
theorem check_e {w : World} {v : Value} {e : Int} {Rs Rs' : List Res} (hS : Sat w Rs) (he : e = 2 ∨ e = 3) (hW : ∀ w' T, Sat w' (T :: Rs) → Calls Tryz.prog 14 #[v] w' fun x w'' => x = .returned (.tuple #[.slice none 0 0, .agg headC, .int .i64 e]) ∧ Sat w'' (T :: Rs')) :
    Calls Tryz.prog 10 #[v] w fun x w' => x = .returned (.tuple #[.agg imageC, .int .i64 e]) ∧ Sat w' Rs' := by
  have h1 := hS.alloc (.cells imageC 37)
  have k := hW _ _ h1
  clear hW
  rcases he with rfl | rfl
  all_goals
    go_enter Tryz.func10, Tryz.ntmps10
    go_wp2_with (go_at_call 14; refine k.mono ?_; rintro e w3 ⟨rfl, h3⟩; obtain ⟨y0, y1, y2, z0, z1, z2, hr⟩ := image_cells h3)
    have h4 := ((((h3.setCell (i := 0) (.int .i64 0)).setCell (i := 1) (.int .i64 0)).setCell (i := 2) (.slice none 0 0)).alloc_drop (Obj.cells headC 30))
    exact bodyPost_ret (cell_tmp_run rfl rfl rfl (run_loadVar_row _ _ 37 37 imageC (0, 0) _ h4.heap rfl rfl rfl)) rfl ⟨rfl, h4.tail⟩

set_option maxRecDepth 100000 in
set_option maxHeartbeats 400000 in
theorem ffixed {w : World} {Rs : List Res} (hS : Sat w Rs) : Calls Tryz.prog 4 #[] w fun e w' => e = .returned (.bool true) ∧ Sat w' Rs := by
  have k0 := check_e (e := 2) hS (.inl rfl) (fun w' T hT => whole_none hT)
  go_enter Tryz.func4, Tryz.ntmps4
  go_wp2_with (go_at_call 10; refine k0.mono ?_; rintro e w1 ⟨rfl, h1⟩; clear k0; have h2 := (h1.alloc_drop (Obj.cells imageC 37)).alloc (Obj.cells #[.int .u8 1] 5); have hs : (w1.alloc (Obj.cells imageC 37)).heap.size = w1.heap.size + 1 := (by simp); rw [hs] at h2; have k1 := check_e (e := 3) h2 (.inr rfl) (fun w' T hT => (whole_bad hT.swap)))
  go_wp2_with (go_at_call 10; refine k1.mono ?_; rintro e w3 ⟨rfl, h3⟩; clear k1 h2; have k2 := fnew (h3.alloc_drop (Obj.cells imageC 37)); clear h3)
  go_wp2_with (go_at_call 11; refine k2.mono ?_; rintro e w4 ⟨f, rfl, h4⟩; clear k2; have h5 := h4.sl_made (e := 5) (size := 1) (n := 2) (cap := 2) (cur := #[.int .u8 71, .int .u8 73]) (xs := [.int .u8 71, .int .u8 73]) (by decide) (by decide) rfl (by decide) (by intro j u hu; simpa using hu); have k3 := fpush_gif h5.swap; clear h5)
  go_wp2_with (go_at_call 5; refine k3.mono ?_; rintro e w6 ⟨rfl, g, hh, h6⟩; clear k3)
  go_wp2_with (first
    | (go_at_call 9; refine (fwoven h6).mono ?_; rintro e w7 ⟨rfl, rfl⟩)
    | (go_at_call 7; refine (fdone_gif h6).mono ?_; rintro e w7 ⟨rfl, rfl⟩))
  go_ret
  exact ⟨rfl, h6.tail.tail⟩

set_option maxRecDepth 100000 in
set_option maxHeartbeats 400000 in
theorem frontnil_true {w : World} {Rs : List Res} (hS : Sat w Rs) (v : Value) : Calls Tryz.prog 3 #[v] w fun e w' => e = .returned (.bool true) ∧ Sat w' Rs := by
  go_enter Tryz.func3, Tryz.ntmps3
  go_wp2_with (go_at_call 4; refine (ffixed hS).mono ?_; rintro e w1 ⟨rfl, h1⟩)
  go_wp2_with (go_at_call 5; refine (fpush_nil _ _).mono ?_; rintro e w2 ⟨rfl, rfl⟩)
  go_wp2_with (first
    | (go_at_call 6; refine (fhead_nil h1).mono ?_; rintro e w3 ⟨rfl, h3⟩)
    | (go_at_call 7; refine (fdone_nil _).mono ?_; rintro e w4 ⟨rfl, rfl⟩)
    | (go_at_call 8; refine (ftold_nil _).mono ?_; rintro e w4 ⟨rfl, rfl⟩)
    | (go_at_call 9; refine (fwoven_nil _).mono ?_; rintro e w4 ⟨rfl, rfl⟩))
  go_ret
  exact ⟨rfl, h3.alloc_drop _⟩

end Go.Proofs.YtelmbpgiehdnnaaGreat
