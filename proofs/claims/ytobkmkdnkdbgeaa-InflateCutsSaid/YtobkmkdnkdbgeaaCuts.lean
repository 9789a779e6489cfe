/- The law InflateCuts: its walk. -/
import Derived.Test.YtobkmkdnkdbgeaaDLawZ
import Derived.Test.YtobkmkdnkdbgeaaQo
namespace Go.Proofs.Ytobkmkdnkdbgeaa
open Go.RowKit Go.Hal
set_option linter.unusedVariables false
set_option linter.unusedSimpArgs false

set_option maxRecDepth 100000 in
set_option maxHeartbeats 4000000 in
theorem inflateCuts_true {w : World} {Rs : List Res} (hS : Sat w Rs) (u : Value) (ys : List UInt8) (hu : ∀ w', Sat w' Rs → SlR w' 5 1 ys.length u (ys.map byteV)) (size lim : Nat) (hsz : size < 256) (hlm : lim < 65536) :
    Calls Try.prog 12 #[u, .int .u8 size, .int .u16 lim] w fun e w' => e = .returned (.bool true) ∧ Sat w' Rs := by
  have hfix := fixed6_true hS
  obtain ⟨ao, cap, rfl, -, -, -, -⟩ := hu w hS
  have Hu := Lib.hid hu
  clear hS hu
  by_cases hbig : 2000 < ys.length
  · have hd : decide (2000 < ys.length) = true := decide_eq_true hbig
    go_enter Try.func12, Try.ntmps12
    go_wp2_with (go_at_call 32; refine hfix.mono ?_; rintro e w1 ⟨rfl, hS1⟩)
    go_ret
    exact ⟨rfl, hS1⟩
  · have hd : decide (2000 < ys.length) = false := decide_eq_false hbig
    have hall0 : ∀ w1, Sat w1 Rs → ∀ n : Int, n = lim → Calls Try.prog 33 #[.slice ao ys.length cap, .int .i64 0, .int .i64 n] w1 (AllP lim ys Rs) := by
      intro w1 h1 n hn; rw [hn]; exact all_0 (by omega) h1 Hu.out (by omega)
    have hall1 : ∀ r ov d w1, Sat w1 (sl 5 1 (DRes.hist r).length ov ((DRes.hist r).map byteV) :: decRes d lim r :: Rs) → ∀ m n : Int, m = ((1 + size % 16 : Nat) : Int) → n = lim → Calls Try.prog 33 #[.slice ao ys.length cap, .int .i64 m, .int .i64 n] w1 (AllP lim ys (sl 5 1 (DRes.hist r).length ov ((DRes.hist r).map byteV) :: decRes d lim r :: Rs)) := by
      intro r ov d w1 h1 m n hm hn; rw [hm, hn]; exact all_1 (by omega) h1 (fun w' h => Hu.out w' h.tail.tail) (by omega) (by omega) (by omega)
    have Hall0 := Lib.hid hall0
    have Hall1 := Lib.hid hall1
    clear hall0 hall1 Hu
    go_enter Try.func12, Try.ntmps12
    go_wp2_with (first
      | (go_at_call 32; refine hfix.mono ?_; rintro e w1 ⟨rfl, hS1⟩; have H0 := Lib.hid (Hall0.out _ hS1); clear Hall0 hS1 hfix)
      | (go_at_call 33; refine (H0.out _ (by omega)).mono ?_; rintro e w2 ⟨r, ov, d, hT, rfl, hS2⟩; obtain ⟨_, oo, oap, rfl, -, -, -, -⟩ := hS2.at_ 0 _ rfl; have HT := Lib.hid hT; have H1 := Lib.hid (Hall1.out _ _ _ _ hS2); clear Hall1 H0 hT hS2)
      | (go_at_call 33; refine (H1.out _ _ (by omega) (by omega)).mono ?_; rintro e w3 ⟨q, ov2, d2, hT2, rfl, hS3⟩; have hrq := tells_one HT.out hT2; subst hrq; obtain ⟨_, oo2, oap2, rfl, -, -, -, -⟩ := hS3.at_ 0 _ rfl; have HsA := Lib.hid (same_d (Sat.front hS3 2 _ rfl).sl_read hS3.sl_read); have HdA := Lib.hid (done_all (Sat.front hS3 3 _ rfl)); have HdB := Lib.hid (done_all (Sat.front hS3 1 _ rfl)); have HrA := Lib.hid (rest_all (Sat.perm (As := [_, _, _, _]) hS3 [3, 0, 1, 2] [_, _, _, _] rfl (by simp))); clear H1 HT hT2 hS3)
      | (go_at_call 34; refine HsA.out.mono ?_; rintro e w4 ⟨rfl, rfl⟩; clear HsA)
      | (go_at_call 35; refine HdA.out.mono ?_; rintro e w5 ⟨rfl, rfl⟩; clear HdA)
      | (go_at_call 35; refine HdB.out.mono ?_; rintro e w5 ⟨rfl, rfl⟩; clear HdB)
      | (go_at_call 40; refine HrA.out.mono ?_; rintro e w6 ⟨v1, rs1, rfl, hr1, hS6⟩; have Hr1 := Lib.hid hr1; have HrB := Lib.hid (rest_all (Sat.perm (As := [_, _, _, _, _]) hS6 [3, 0, 1, 2, 4] [_, _, _, _, _] rfl (by simp))); clear HrA hr1 hS6)
      | (go_at_call 40; refine HrB.out.mono ?_; rintro e w7 ⟨v2, rs2, rfl, hr2, hS7⟩; obtain rfl := rest_one Hr1.out hr2; have HsB := Lib.hid (same_d (Sat.front hS7 2 _ rfl).sl_read hS7.sl_read); have HtA := Lib.hid (total_all (Sat.front hS7 3 _ rfl)); have HtB := Lib.hid (total_all (Sat.front hS7 1 _ rfl)); have HS7 := Lib.hid hS7; clear HrB Hr1 hr2 hS7)
      | (go_at_call 34; refine HsB.out.mono ?_; rintro e w8 ⟨rfl, rfl⟩; clear HsB)
      | (go_at_call 42; refine HtA.out.mono ?_; rintro e w9 ⟨rfl, rfl⟩; clear HtA)
      | (go_at_call 42; refine HtB.out.mono ?_; rintro e w9 ⟨rfl, rfl⟩; clear HtB))
    go_ret
    exact ⟨rfl, Sat.perm (As := [_, _, _, _, _, _]) (Bs := []) HS7.out [] rfl (by simp)⟩

end Go.Proofs.Ytobkmkdnkdbgeaa
