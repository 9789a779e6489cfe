/- The law InflateNil. -/
import Derived.Test.YtobkmkdnkdbgeaaQo
import Derived.Test.YtobkmkdnkdbgeaaQh
import Derived.Test.YtobkmkdnkdbgeaaQg
namespace Go.Proofs.Ytobkmkdnkdbgeaa
open Go.RowKit Go.Hal
set_option linter.unusedVariables false
set_option linter.unusedSimpArgs false

theorem push_zero {w : World} {d : Nat} {lim : Int} {Rs : List Res} (hlim : lim ≤ 0) (hS : Sat w (idle d lim ds0 :: Rs)) {v : Value} {ys : List UInt8} (hv : ∀ w', Sat w' Rs → SlR w' 5 1 ys.length v (ys.map byteV)) (hb : ys.length ≤ 140737488351232) :
    Calls Try.prog 37 #[.pointer (some ⟨d, 0, none⟩), v] w fun e' w' => ∃ ao cap e, e' = .returned (.tuple #[.slice ao 0 cap, .int .i64 (e : Nat)]) ∧ Sat w' Rs := by
  refine (push_idle (by omega) hS hv (by show 0 + 8 * ys.length ≤ _; omega)).mono ?_
  rintro e' w' ⟨r, ov, h1, rfl, h2⟩
  have h3 := tells_cap (ys := ys) h1
  have h4 : r.hist = [] := List.eq_nil_of_length_eq_zero (by omega)
  rw [h4] at h2
  obtain ⟨F, ao, cap, rfl, -, -, -, -⟩ := h2.at_ 0 _ rfl
  exact ⟨ao, cap, r.err, rfl, h2.tail.tail⟩

set_option maxRecDepth 100000 in
set_option maxHeartbeats 4000000 in
theorem inflateNil_true {w : World} {Rs : List Res} (hS : Sat w Rs) (u : Value) (ys : List UInt8) (hu : ∀ w', Sat w' Rs → SlR w' 5 1 ys.length u (ys.map byteV)) (hb : ys.length ≤ 140737488351232) (lim : Int) :
    Calls Try.prog 14 #[u, .int .i64 lim] w fun e w' => e = .returned (.bool true) ∧ Sat w' Rs := by
  have Hfix := Lib.hid (fixed6_true hS)
  obtain ⟨uo, ucap, rfl, -, -, -, -⟩ := hu w hS
  have Hu := Lib.hid hu
  have Hb := Lib.hid hb
  have Hnil := Lib.hid push_nil
  clear hS hu hb
  rcases (by omega : 0 < lim ∨ lim ≤ 0) with hl | hl
  · go_enter Try.func14, Try.ntmps14
    go_wp2_with (first
      | (go_at_call 32; refine Hfix.out.mono ?_; rintro e w1 ⟨rfl, hS1⟩; have Hn := Lib.hid (new_idle hS1 0))
      | (go_at_call 37; refine (Hnil.out _ _ _ _).mono ?_; rintro e w2 ⟨rfl, rfl⟩; clear Hnil)
      | (go_at_call 36; refine Hn.out.mono ?_; rintro e w3 ⟨d, rfl, hS3⟩; have Hp := Lib.hid (push_zero (by omega) hS3 Hu.out Hb.out); clear hS3)
      | (go_at_call 37; refine Hp.out.mono ?_; rintro e w4 ⟨xo, xap, ee, rfl, hS4⟩)
      | (go_at_call 35; refine (done_nil _).mono ?_; rintro e w5 ⟨rfl, rfl⟩)
      | (go_at_call 40; refine (rest_not (done_nil _)).mono ?_; rintro e w5 ⟨rfl, rfl⟩)
      | (go_at_call 42; refine (total_nil _).mono ?_; rintro e w5 ⟨rfl, rfl⟩))
    go_ret
    exact ⟨rfl, hS4⟩
  · have hl2 : ¬ 0 < lim := by omega
    have Hl := Lib.hid hl
    clear hl
    go_enter Try.func14, Try.ntmps14
    go_wp2_with (first
      | (go_at_call 32; refine Hfix.out.mono ?_; rintro e w1 ⟨rfl, hS1⟩; have Hn := Lib.hid (new_idle hS1 lim))
      | (go_at_call 37; refine (Hnil.out _ _ _ _).mono ?_; rintro e w2 ⟨rfl, rfl⟩; clear Hnil)
      | (go_at_call 36; refine Hn.out.mono ?_; rintro e w3 ⟨d, rfl, hS3⟩; have Hp := Lib.hid (push_zero Hl.out hS3 Hu.out Hb.out); clear hS3)
      | (go_at_call 37; refine Hp.out.mono ?_; rintro e w4 ⟨xo, xap, ee, rfl, hS4⟩)
      | (go_at_call 35; refine (done_nil _).mono ?_; rintro e w5 ⟨rfl, rfl⟩)
      | (go_at_call 40; refine (rest_not (done_nil _)).mono ?_; rintro e w5 ⟨rfl, rfl⟩)
      | (go_at_call 42; refine (total_nil _).mono ?_; rintro e w5 ⟨rfl, rfl⟩))
    go_ret
    exact ⟨rfl, hS4⟩

end Go.Proofs.Ytobkmkdnkdbgeaa
