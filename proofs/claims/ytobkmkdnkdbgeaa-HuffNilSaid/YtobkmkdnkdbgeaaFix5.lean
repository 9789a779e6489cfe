/- The fixed calls of layer 5's laws. -/
import Derived.Test.YtobkmkdnkdbgeaaLens
import Derived.Test.YtobkmkdnkdbgeaaNext
namespace Go.Proofs.Ytobkmkdnkdbgeaa
open Go.RowKit Go.Hal
set_option linter.unusedVariables false
set_option linter.unusedSimpArgs false

theorem sortOk_1 : SortOk 19 49 := fun w v ps Rs hK hc hS => stable_1 ps hS hK hc
theorem sortOk_2 : SortOk 19 53 := fun w v ps Rs hK hc hS => stable_2 ps hS hK hc

theorem okL_2102 : okL [2, 1, 0, 2] := ⟨by decide +kernel, .inl (by decide +kernel)⟩
theorem okL_111 : ¬ okL [1, 1, 1] := fun h => absurd (h.1 1 (by omega)) (by decide +kernel)
theorem word_3 : wordOf [2, 1, 0, 2] 3 = (2, 3) := by decide +kernel
theorem word_0 : wordOf [2, 1, 0, 2] 0 = (2, 1) := by decide +kernel
theorem lens_5110 : lensM [5, 1, 1, 0] 15 = [1, 2, 2, 0] := by decide +kernel
theorem check_5110 : checkM [5, 1, 1, 0] 15 = 0 := by decide +kernel
theorem first_5110 : (firstM [5, 1, 1, 0]).length = 3 := by decide +kernel

set_option maxRecDepth 100000 in
set_option maxHeartbeats 1000000 in
theorem fixed5_true {w : World} {Rs : List Res} (hS : Sat w Rs) :
    Calls Try.prog 15 #[] w fun e w' => e = .returned (.bool true) ∧ Sat w' Rs := by
  have h1 := hS.sl_made (e := 3) (size := 1) (n := 4) (cap := 4) (cur := #[.int .i64 2, .int .i64 1, .int .i64 0, .int .i64 2]) (xs := (natsV [2, 1, 0, 2]).map intV) (by omega) (by decide) rfl (by simp) (fun j u hu => by simpa [natsV, intV] using hu)
  have g1 := new_good h1 (.slice (some ⟨w.heap.size, 0, none⟩) 4 4) [2, 1, 0, 2] (fun w' h => h.sl_read) (by decide) (by decide)
  go_enter Try.func15, Try.ntmps15
  go_wp2_with (go_at_call 16; refine g1.mono ?_; rintro e w1 (⟨-, c, rfl, hS1⟩ | ⟨h, -, -⟩); rotate_left; exact (h okL_2102).elim)
  have hw3 := word_code hS1 (by decide) 3
  rw [word_3] at hw3
  refine hw3.mono ?_
  rintro e w2 ⟨rfl, n1, rfl⟩
  have hw0 := word_code (hS1.drewN n1) (by decide) 0
  rw [word_0] at hw0
  go_wp2_with (go_at_call 18; refine hw0.mono ?_; rintro e w3 ⟨rfl, n2, rfl⟩)
  have h2 := (hS1.drewN (n1 + n2)).sl_made (e := 3) (size := 1) (n := 3) (cap := 3) (cur := #[.int .i64 1, .int .i64 1, .int .i64 1]) (xs := (natsV [1, 1, 1]).map intV) (by omega) (by decide) rfl (by simp) (fun j u hu => by simpa [natsV, intV] using hu)
  have g2 := new_good h2 (.slice (some ⟨w1.heap.size, 0, none⟩) 3 3) [1, 1, 1] (fun w' h => h.sl_read) (by decide) (by decide)
  refine g2.mono ?_
  rintro e w4 (⟨h, -, -⟩ | ⟨-, rfl, hS2⟩)
  · exact (okL_111 h).elim
  have h3 := hS2.sl_made (e := 3) (size := 1) (n := 4) (cap := 4) (cur := #[.int .i64 5, .int .i64 1, .int .i64 1, .int .i64 0]) (xs := ([5, 1, 1, 0] : List Int).map intV) (by omega) (by decide) rfl (by simp) (fun j u hu => by simpa [intV] using hu)
  have g3 := lengths_any 19 sortOk_1 sortOk_2 h3 (.slice (some ⟨w4.heap.size, 0, none⟩) 4 4) [5, 1, 1, 0] (fun w' h => h.sl_read) 15 (fun _ => by rw [first_5110]; omega)
  unfold LensPost at g3
  rw [check_5110, lens_5110] at g3
  go_wp2_with (go_at_call 21; refine g3.mono ?_; rintro e w5 (⟨-, v, rfl, hS3⟩ | ⟨h, -, -⟩); rotate_left; exact (h rfl).elim; obtain ⟨b, off, cap, rfl, -, -, -, hc, -⟩ := hS3.sl_cells (by simp); have q0 := hc 0 _ rfl; have q1 := hc 1 _ rfl; have q2 := hc 2 _ rfl; have q3 := hc 3 _ rfl; simp only [intV, Nat.add_zero] at q0 q1 q2 q3; clear hc)
  go_ret
  exact ⟨rfl, Sat.perm (As := [_, _, _, _, _]) (Bs := []) hS3 [] rfl (by simp)⟩

end Go.Proofs.Ytobkmkdnkdbgeaa
