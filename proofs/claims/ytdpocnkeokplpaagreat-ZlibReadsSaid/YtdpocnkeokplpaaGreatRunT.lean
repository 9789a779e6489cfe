/- The document's inflate: tell. -/
import Derived.Test.YtdpocnkeokplpaaGreatRun
import Derived.Deep.RegionWith
namespace Go.Proofs.YtdpocnkeokplpaaGreat
open Go.RowKit Go.Hal
set_option linter.unusedVariables false
set_option linter.unusedSimpArgs false

theorem tellS_e {r : RunS} {lim : Int} (c : UInt8) (h : r.e ≠ 0) : r.tellS lim c = r := if_pos h
theorem tellS_l {r : RunS} {lim : Int} (c : UInt8) (h : r.e = 0) (hl : lim ≤ (r.out.length : Int)) : r.tellS lim c = { r with e := 9 } := by unfold RunS.tellS; rw [if_neg (by omega), if_pos hl]
theorem tellS_k {r : RunS} {lim : Int} (c : UInt8) (h : r.e = 0) (hl : ¬ lim ≤ (r.out.length : Int)) : r.tellS lim c = { r with out := r.out ++ [c] } := by unfold RunS.tellS; rw [if_neg (by omega), if_neg hl]
theorem failS_e {r : RunS} (b : Bool) (k : Nat) (h : r.e ≠ 0) : r.failS b k = r := if_neg (fun x => h x.1)
theorem failS_n {r : RunS} (k : Nat) : r.failS false k = r := if_neg (fun x => by cases x.2)
theorem failS_y {r : RunS} (k : Nat) (h : r.e = 0) : r.failS true k = { r with e := k } := if_pos ⟨h, rfl⟩

set_option maxRecDepth 100000 in
set_option maxHeartbeats 1000000 in
theorem tell_run {w : World} {p : Nat} {lim : Int} {r : RunS} {Rs : List Res} (hS : Sat w (run p lim r :: Rs)) (c : UInt8) (hr : r.out.length ≤ 140737488355000) :
    Calls Tryz.prog 79 #[.pointer (some ⟨p, 0, none⟩), .int .u8 (c.toNat : Nat)] w fun e' w' => e' = .returned (.tuple #[]) ∧ Sat w' (run p lim (r.tellS lim c) :: Rs) := by
  obtain ⟨bits, out, e, done, kinds⟩ := r
  obtain ⟨bv, ov, kv, hS1⟩ := run_open hS
  obtain ⟨F, oo, oap, rfl, -, -, -, -⟩ := hS1.at_ 2 _ rfl
  obtain ⟨-, c2, c3, c4, -, -⟩ := run_cells hS1
  replace c2 : w.cell? ⟨p, 2, none⟩ = some (.slice oo out.length oap) := c2
  replace c4 : w.cell? ⟨p, 4, none⟩ = some (.int .i64 e) := c4
  replace hr : out.length ≤ 140737488355000 := hr
  clear hS1
  by_cases hl : lim ≤ (out.length : Int)
  · have hd : decide (lim ≤ (out.length : Int)) = true := decide_eq_true hl
    have Hf := Lib.hid (fail_any hS.drew true 9)
    by_cases he : e = 0
    · subst he
      rw [tellS_l (r := ⟨bits, out, 0, done, kinds⟩) c rfl hl]
      rw [failS_y (r := ⟨bits, out, 0, done, kinds⟩) 9 rfl] at Hf
      clear hS
      go_enter Tryz.func79, Tryz.ntmps79
      go_wp2
      go_region_with (go_at_call 78; refine Hf.out.mono ?_; rintro e' w2 ⟨rfl, hS2⟩; obtain ⟨bv2, ov2, kv2, hS3⟩ := run_open hS2; obtain ⟨-, -, -, d4, -, -⟩ := run_cells hS3; replace d4 : w2.cell? ⟨p, 4, none⟩ = some (.int .i64 9) := d4; have HS2 := Lib.hid hS2; clear hS2 hS3 c2 c3 c4 Hf)
      all_goals
        go_wp2
        go_end0
        exact ⟨rfl, HS2.out⟩
    · have heI : ((e : Int) == 0) = false := beq_eq_false_iff_ne.2 (by omega)
      rw [tellS_e c (show RunS.e ⟨bits, out, e, done, kinds⟩ ≠ 0 from he)]
      rw [failS_e true 9 (show RunS.e ⟨bits, out, e, done, kinds⟩ ≠ 0 from he)] at Hf
      clear hS
      go_enter Tryz.func79, Tryz.ntmps79
      go_wp2
      go_region_with (go_at_call 78; refine Hf.out.mono ?_; rintro e' w2 ⟨rfl, hS2⟩; obtain ⟨bv2, ov2, kv2, hS3⟩ := run_open hS2; obtain ⟨-, -, -, d4, -, -⟩ := run_cells hS3; replace d4 : w2.cell? ⟨p, 4, none⟩ = some (.int .i64 e) := d4; have HS2 := Lib.hid hS2; clear hS2 hS3 c2 c3 c4 Hf)
      all_goals
        go_wp2
        go_end0
        exact ⟨rfl, HS2.out⟩
  · have hd : decide (lim ≤ (out.length : Int)) = false := decide_eq_false hl
    have Hf := Lib.hid (fail_any hS.drew false 9)
    rw [failS_n] at Hf
    by_cases he : e = 0
    · subst he
      rw [tellS_k (r := ⟨bits, out, 0, done, kinds⟩) c rfl hl]
      obtain ⟨i0, hi, hz0, hz1, hz2⟩ := info_parts Tryz.infoU8
      clear hS
      go_enter Tryz.func79, Tryz.ntmps79
      go_wp2
      go_region_with (go_at_call 78; refine Hf.out.mono ?_; rintro e' w2 ⟨rfl, hS2⟩; obtain ⟨bv2, ov2, kv2, hS3⟩ := run_open hS2; obtain ⟨-, d2, -, d4, -, -⟩ := run_cells hS3; replace d4 : w2.cell? ⟨p, 4, none⟩ = some (.int .i64 0) := d4; have HS3 := Lib.hid hS3; clear hS2 hS3 c2 c3 c4 Hf)
      all_goals
        obtain ⟨F3, oo3, oap3, rfl, -, -, -, -⟩ := HS3.out.at_ 2 _ rfl
        have hA := HS3.out.sl_made (e := 5) (size := 1) (n := 1) (cap := 1) (cur := #[.int .u8 c.toNat]) (xs := [.int .u8 c.toNat]) (by omega) (by decide) rfl (by simp) (fun j u hu => by simpa using hu)
        have hsrc := SlR.src (P := Tryz.prog) hA.sl_read Tryz.underlying22 (by simp [Value.oneCell'])
        have hA2 := Sat.perm (As := [_, _, _, _, _]) hA [3, 1, 2, 4] [_, _, _, _] rfl (by simp)
        have Hsrc := Lib.hid hsrc
        clear hA hsrc HS3
        go_wp2_with (at_builtin; refine wpList_append_sat _ rfl _ _ 22 22 rfl 5 i0 (.int .u8 0) 1 1 Tryz.underlying22 hi hz0 hz1 hz2 rfl (by decide) _ _ _ _ rfl hA2 1 _ _ rfl Hsrc.out ?_ ?_ ?_)
        · show out.length + 1 ≤ maxLen
          unfold maxLen; omega
        · omega
        · intro v' w' hS7
          have h8 := Sat.perm (As := [_, _, _, _]) hS7 [1, 2, 0, 3] [_, _, _, _] rfl (by simp)
          have f2 : w'.frozen? ⟨p, 2, none⟩ = false := frozen_of_row w' p 2 _ _ (Sat.heap h8)
          have q2 : w'.cell? ⟨p, 2, none⟩ = some (.slice oo3 out.length oap3) := by rw [cell_of_row w' p 2 _ _ _ (Sat.heap h8)]; rfl
          have h9 := Sat.setCell (i := 2) h8 v'
          obtain ⟨F9, ao9, cap9, rfl, -, -, -, -⟩ := h9.at_ 2 _ rfl
          have H9 := Lib.hid h9
          clear h8 h9 hS7 Hsrc hr
          go_wp2
          go_end0
          refine ⟨rfl, ?_⟩
          refine run_shut (r := ⟨bits, out ++ [c], 0, done, kinds⟩) (bv := bv2) (ov := .slice ao9 (out.length + 1) cap9) (kv := kv2) ?_
          have h := H9.out
          unfold runL
          simp only [List.length_append, List.length_singleton, List.map_append, List.map_cons, List.map_nil]
          exact h
    · have heI : ((e : Int) == 0) = false := beq_eq_false_iff_ne.2 (by omega)
      rw [tellS_e c (show RunS.e ⟨bits, out, e, done, kinds⟩ ≠ 0 from he)]
      clear hS
      go_enter Tryz.func79, Tryz.ntmps79
      go_wp2
      go_region_with (go_at_call 78; refine Hf.out.mono ?_; rintro e' w2 ⟨rfl, hS2⟩; obtain ⟨bv2, ov2, kv2, hS3⟩ := run_open hS2; obtain ⟨-, -, -, d4, -, -⟩ := run_cells hS3; replace d4 : w2.cell? ⟨p, 4, none⟩ = some (.int .i64 e) := d4; have HS2 := Lib.hid hS2; clear hS2 hS3 c2 c3 c4 Hf)
      all_goals
        go_wp2
        go_end0
        exact ⟨rfl, HS2.out⟩

end Go.Proofs.YtdpocnkeokplpaaGreat
