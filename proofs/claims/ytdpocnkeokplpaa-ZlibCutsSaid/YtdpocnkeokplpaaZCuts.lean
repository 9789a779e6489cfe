/- The law ZlibCuts: its walk. -/
import Derived.Test.YtdpocnkeokplpaaZAll
namespace Go.Proofs.Ytdpocnkeokplpaa
open Go.RowKit Go.Hal
set_option linter.unusedVariables false
set_option linter.unusedSimpArgs false

set_option maxRecDepth 100000 in
set_option maxHeartbeats 4000000 in
theorem zlibCuts_true {w : World} {Rs : List Res} (hS : Sat w Rs) (u : Value) (ys : List UInt8) (hu : ∀ w', Sat w' Rs → SlR w' 5 1 ys.length u (ys.map byteV)) (size lim : Nat) (hsz : size < 256) (hlm : lim < 65536) :
    Calls Try.prog 11 #[u, .int .u8 size, .int .u16 lim] w fun e w' => e = .returned (.bool true) ∧ Sat w' Rs := by
  have hfix := fixed8_true hS
  obtain ⟨ao, cap, rfl, -, -, -, -⟩ := hu w hS
  have Hu := Lib.hid hu
  clear hS hu
  by_cases hbig : 2000 < ys.length
  · have hd : decide (2000 < ys.length) = true := decide_eq_true hbig
    go_enter Try.func11, Try.ntmps11
    go_wp2_with (go_at_call 23; refine hfix.mono ?_; rintro e w1 ⟨rfl, hS1⟩)
    go_ret
    exact ⟨rfl, hS1⟩
  · have hd : decide (2000 < ys.length) = false := decide_eq_false hbig
    have hall0 : ∀ w1, Sat w1 Rs → ∀ k n : Int, k = ((4000 : Nat) : Int) → n = lim → Calls Try.prog 25 #[.slice ao ys.length cap, .int .i64 k, .int .i64 n] w1 (ZAllP lim ys Rs) := by
      intro w1 h1 k n hk hn; rw [hk, hn]; exact zall_any (by omega) h1 Hu.out (by omega) (by omega) (by omega)
    have hall1 : ∀ (r : ZS) ov z w1, Sat w1 (sl 5 1 r.q.hist.length ov (r.q.hist.map byteV) :: zd z lim r :: Rs) → ∀ m n : Int, m = ((1 + size % 16 : Nat) : Int) → n = lim → Calls Try.prog 25 #[.slice ao ys.length cap, .int .i64 m, .int .i64 n] w1 (ZAllP lim ys (sl 5 1 r.q.hist.length ov (r.q.hist.map byteV) :: zd z lim r :: Rs)) := by
      intro r ov z w1 h1 m n hm hn; rw [hm, hn]; exact zall_any (by omega) h1 (fun w' h => Hu.out w' h.tail.tail) (by omega) (by omega) (by omega)
    have Hall0 := Lib.hid hall0
    have Hall1 := Lib.hid hall1
    have Hy : Hid (ys.length ≤ 2000) := (by omega : ys.length ≤ 2000)
    clear hall0 hall1 Hu
    go_enter Try.func11, Try.ntmps11
    go_wp2_with (first
      | (go_at_call 23; refine hfix.mono ?_; rintro e w1 ⟨rfl, hS1⟩; have H0 := Lib.hid (Hall0.out _ hS1); clear Hall0 hS1 hfix)
      | (go_at_call 25; refine (H0.out _ _ (by omega) (by omega)).mono ?_; rintro e w2 ⟨r, ov, d, hT, rfl, hS2⟩; obtain ⟨_, oo, oap, rfl, -, -, -, -⟩ := hS2.at_ 0 _ rfl; have HT := Lib.hid hT; have H1 := Lib.hid (Hall1.out _ _ _ _ hS2); clear Hall1 H0 hT hS2)
      | (go_at_call 25; refine (H1.out _ _ (by omega) (by omega)).mono ?_; rintro e w3 ⟨q, ov2, d2, hT2, rfl, hS3⟩; obtain ⟨k1, k2, k3, k4⟩ := zt_one HT.out hT2; obtain ⟨_, oo2, oap2, rfl, -, -, -, -⟩ := hS3.at_ 0 _ rfl; have hr1 : r.rest.length ≤ 1048576 := (by have h1 := (zt_foot HT.out).2; have h2 := Hy.out; omega); have hr2 : q.rest.length ≤ 1048576 := (by rw [← k4]; exact hr1); have HsA := Lib.hid (same_d (Sat.front hS3 2 _ rfl).sl_read hS3.sl_read); have HdA := Lib.hid (zDone_any (Sat.front hS3 3 _ rfl)); have HdB := Lib.hid (zDone_any (Sat.front hS3 1 _ rfl)); rw [show (r.q.hist == q.q.hist) = true by rw [k2]; exact beq_self_eq_true _] at HsA; rw [← k3] at HdB; have he1 : ((r.e : Int) == (q.e : Int)) = true := (by rw [k1]; exact beq_self_eq_true _); have he2 : (r.e == q.e) = true := (by rw [k1]; exact beq_self_eq_true _); have HrA := Lib.hid (zRest_any (Sat.perm (As := [_, _, _, _]) hS3 [3, 0, 1, 2] [_, _, _, _] rfl (by simp)) hr1); have K4 := Lib.hid k4; have HR2 := Lib.hid hr2; clear H1 HT hT2 hS3 k1 k2 k3 k4 hr1 hr2)
      | (go_at_call 16; refine HsA.out.mono ?_; rintro e w4 ⟨rfl, rfl⟩; clear HsA)
      | (go_at_call 26; refine HdA.out.mono ?_; rintro e w5 ⟨rfl, rfl⟩; clear HdA)
      | (go_at_call 26; refine HdB.out.mono ?_; rintro e w5 ⟨rfl, rfl⟩; clear HdB)
      | (go_at_call 27; refine HrA.out.mono ?_; rintro e w6 ⟨v1, rfl, hS6⟩; have HrB := Lib.hid (zRest_any (Sat.perm (As := [_, _, _, _, _]) hS6 [3, 0, 1, 2, 4] [_, _, _, _, _] rfl (by simp)) HR2.out); clear HrA hS6)
      | (go_at_call 27; refine HrB.out.mono ?_; rintro e w7 ⟨v2, rfl, hS7⟩; have hsB := same_d (Sat.front hS7 2 _ rfl).sl_read hS7.sl_read; rw [show (r.rest == q.rest) = true by rw [K4.out]; exact beq_self_eq_true _] at hsB; have HsB := Lib.hid hsB; have HtA := Lib.hid (zTotal_any (Sat.front hS7 3 _ rfl)); have HS7 := Lib.hid hS7; clear HrB hS7 hsB)
      | (go_at_call 16; refine HsB.out.mono ?_; rintro e w8 ⟨rfl, rfl⟩; clear HsB)
      | (go_at_call 28; refine HtA.out.mono ?_; rintro e w9 ⟨rfl, rfl⟩; clear HtA))
    go_ret
    exact ⟨rfl, Sat.perm (As := [_, _, _, _, _, _]) (Bs := []) HS7.out [] rfl (by simp)⟩

end Go.Proofs.Ytdpocnkeokplpaa
