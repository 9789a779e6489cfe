/- The law InflateBegins: its walk. -/
import Derived.Test.YtobkmkdnkdbgeaaDLawZ
import Derived.Test.YtobkmkdnkdbgeaaQo
namespace Go.Proofs.Ytobkmkdnkdbgeaa
open Go.RowKit Go.Hal
set_option linter.unusedVariables false
set_option linter.unusedSimpArgs false

theorem pre_take6 {a b : List UInt8} (h : a <+: b) : b.take a.length = a := by
  obtain ⟨t, rfl⟩ := h
  exact List.take_left ..

set_option maxRecDepth 100000 in
set_option maxHeartbeats 4000000 in
theorem inflateBegins_true {w : World} {Rs : List Res} (hS : Sat w Rs) (u : Value) (ys : List UInt8) (hu : ∀ w', Sat w' Rs → SlR w' 5 1 ys.length u (ys.map byteV)) (at_ : Nat) (ha : at_ < 65536) :
    Calls Try.prog 10 #[u, .int .u16 at_] w fun e w' => e = .returned (.bool true) ∧ Sat w' Rs := by
  have hfix := fixed6_true hS
  obtain ⟨ao, cap, rfl, hcap, -, -, -⟩ := hu w hS
  have Hu := Lib.hid hu
  clear hS hu
  by_cases hbig : 2000 < ys.length
  · have hd : decide (2000 < ys.length) = true := decide_eq_true hbig
    go_enter Try.func10, Try.ntmps10
    go_wp2_with (go_at_call 32; refine hfix.mono ?_; rintro e w1 ⟨rfl, hS1⟩)
    go_ret
    exact ⟨rfl, hS1⟩
  · have hd : decide (2000 < ys.length) = false := decide_eq_false hbig
    obtain ⟨k, Hk⟩ : ∃ k, Hid (k = at_ % (ys.length + 1)) := ⟨_, rfl⟩
    have hk : k ≤ ys.length := by have := Nat.mod_lt at_ (show 0 < ys.length + 1 by omega); rw [Hk.out]; omega
    have hk2 : (at_ : Int) % ((ys.length : Int) + 1) = (k : Int) := by rw [Hk.out, Int.natCast_emod]; rfl
    have hkc : k ≤ cap := by omega
    have hall0 : ∀ w1, Sat w1 Rs → ∀ n : Int, n = k → Calls Try.prog 33 #[.slice ao k cap, .int .i64 0, .int .i64 5000] w1 (AllP 5000 (ys.take k) Rs) := by
      intro w1 h1 n hn
      have hl : (ys.take k).length = k := by rw [List.length_take]; omega
      refine all_0 (by omega) h1 (ys := ys.take k) (fun w' h' => ?_) (by rw [hl]; omega)
      rw [hl, List.map_take]
      exact slr_head (Hu.out w' h') k hk
    have hall1 : ∀ r ov d w1, Sat w1 (sl 5 1 (DRes.hist r).length ov ((DRes.hist r).map byteV) :: decRes d 5000 r :: Rs) → Calls Try.prog 33 #[.slice ao ys.length cap, .int .i64 0, .int .i64 5000] w1 (AllP 5000 ys (sl 5 1 (DRes.hist r).length ov ((DRes.hist r).map byteV) :: decRes d 5000 r :: Rs)) := by
      intro r ov d w1 h1; exact all_0 (by omega) h1 (fun w' h => Hu.out w' h.tail.tail) (by omega)
    have Hall0 := Lib.hid hall0
    have Hall1 := Lib.hid hall1
    clear hall0 hall1 Hu
    go_enter Try.func10, Try.ntmps10
    go_wp2_with (first
      | (go_at_call 32; refine hfix.mono ?_; rintro e w1 ⟨rfl, hS1⟩; have H0 := Lib.hid (Hall0.out _ hS1 _ rfl); clear Hall0 hS1 hfix)
      | (go_at_call 33; refine H0.out.mono ?_; rintro e w2 ⟨r, ov, d, hT, rfl, hS2⟩; obtain ⟨_, oo, oap, rfl, -, -, -, -⟩ := hS2.at_ 0 _ rfl; have HT := Lib.hid hT; have H1 := Lib.hid (Hall1.out _ _ _ _ hS2); clear Hall1 H0 hT hS2)
      | (go_at_call 33; refine H1.out.mono ?_; rintro e w3 ⟨q, ov2, d2, hT2, rfl, hS3⟩; obtain ⟨_, oo2, oap2, rfl, hle2, -, -, -⟩ := hS3.at_ 0 _ rfl; have hcat : ys.take k ++ ys.drop k = ys := List.take_append_drop _ _; have hpre := tells_pre HT.out (by rw [hcat]; exact hT2); clear hcat; have hlen := List.IsPrefix.length_le hpre.1; have hsl := slr_head hS3.sl_read r.hist.length hlen; rw [← List.map_take, pre_take6 hpre.1] at hsl; have HsA := Lib.hid (same_d (Sat.front hS3 2 _ rfl).sl_read hsl); have Hpre := Lib.hid hpre.2; have HS3 := Lib.hid hS3; clear H1 HT hT2 hS3 hsl hpre)
      | (go_at_call 34; refine HsA.out.mono ?_; rintro e w4 ⟨rfl, rfl⟩; clear HsA; rcases Hpre.out with he | he))
    all_goals
      go_ret
      exact ⟨rfl, Sat.perm (As := [_, _, _, _]) (Bs := []) HS3.out [] rfl (by simp)⟩

end Go.Proofs.Ytobkmkdnkdbgeaa
