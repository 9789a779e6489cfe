/- The laws of layer 6: all at once. -/
import Derived.Test.YtobkmkdnkdbgeaaDLaw
namespace Go.Proofs.Ytobkmkdnkdbgeaa
open Go.RowKit Go.Hal
set_option linter.unusedVariables false
set_option linter.unusedSimpArgs false

set_option maxRecDepth 100000 in
set_option maxHeartbeats 4000000 in
theorem all_0 {w : World} {lim : Int} {Rs : List Res} (hlim : lim ≤ 65535) (hS : Sat w Rs) {v : Value} {ys : List UInt8} (hv : ∀ w', Sat w' Rs → SlR w' 5 1 ys.length v (ys.map byteV)) (hy : ys.length ≤ 10000) :
    Calls Try.prog 33 #[v, .int .i64 0, .int .i64 lim] w (AllP lim ys Rs) := by
  have Hnew := Lib.hid (new_idle hS lim)
  have hvs := hv w hS
  obtain ⟨ao, cap, rfl, hle, hcm, -, hk4⟩ := hvs
  have Hv := Lib.hid hv
  have Hy := Lib.hid hy
  have Hlim := Lib.hid hlim
  clear hS hv hk4 hle hcm hlim
  go_enter Try.func33, Try.ntmps33
  go_wp2_with (go_at_call 36; refine Hnew.out.mono ?_; rintro e' w2 ⟨d, rfl, hS2⟩)
  obtain ⟨N, HN⟩ : ∃ N : Nat, Hid (N = ys.length + 1) := ⟨_, Lib.hid rfl⟩
  rw [show (ys.length : Int) + 1 = (N : Int) by rw [HN.out]; rfl]
  clear hy
  have hJ : AllJ lim ys [] ys ds0 d (.slice none 0 0) (.slice ao ys.length cap) Rs w2 := ⟨rfl, tells_nil lim, Hv.out, Sat.swap (hS2.sl_nil 5 1 none)⟩
  clear hS2 Hnew Hv
  go_loopg [0, 10] (ys.length + 1) (fun g v ov wr => ∃ (a b : List UInt8) (s : DS), b.length + 1 ≤ g ∧ AllJ lim ys a b s d ov v Rs wr)
  case atStart => exact ⟨[], ys, ds0, Nat.le_refl _, hJ⟩
  case round =>
    clear hJ
    obtain ⟨a, b, s, hg, Hab, Ht, hb, hS⟩ := hrel
    have hbs := hb wr (Sat.tail (Sat.tail hS))
    obtain ⟨bo, bap, rfl, hble, hbm, -, hbk⟩ := hbs
    obtain ⟨F, oo, oap, rfl, -, -, -, -⟩ := hS.at_ 1 _ rfl
    unfold maxLen at hbm
    have hbl : b.length ≤ 10000 := by have := Hy.out; rw [Hab.out, List.length_append] at this; omega
    have Hb := Lib.hid hb
    have Hb2 := Lib.hid hb
    have hNb : b.length < N := by rw [HN.out, Hab.out, List.length_append]; omega
    · have hKle : b.length ≤ b.length := (Nat.le_refl _)
      have Hp := Lib.hid (push_idle (v := .slice bo b.length bap) (ys := b.take b.length) Hlim.out hS (fun w' h' => by
        have h9 := slr_head (Hb.out w' h'.tail) b.length (Nat.le_refl _)
        rw [List.map_take, show (b.take b.length).length = b.length by rw [List.length_take]; omega]
        exact h9) (by have h1 := tells_bits Ht.out; rw [List.length_take]; have := Hy.out; rw [Hab.out, List.length_append] at this; omega))
      clear hS hb hbk
      go_wp2_with (go_at_call 37; refine Hp.out.mono ?_; rintro e' w3 ⟨r, xv, hr, rfl, hS3⟩; have hp0 := runs_pre hr; have hp1 : s.hist <+: r.hist := hp0; obtain ⟨nw, hnw⟩ := hp1; clear hp0; rw [show r.hist.drop s.hist.length = nw by rw [← hnw]; exact List.drop_left ..] at hS3; obtain ⟨F3, xo, xap, hxv, -, -, -, -⟩ := hS3.at_ 0 _ rfl; subst hxv; have HS3 := Lib.hid hS3; have Hnw := Lib.hid hnw; have Hr := Lib.hid hr; clear Hp hS3 hnw hr)
      have hS5 := Sat.perm (As := [_, _, _]) HS3.out.drew [2, 0, 1] [_, _, _] rfl (by simp)
      have Hsrc := Lib.hid (SlR.src (P := Try.prog) HS3.out.drew.sl_read Try.underlying43 (byteV_one nw))
      have Hcap : Hid (s.hist.length + nw.length ≤ 65535) := by
        have h1 := runs_cap Hr.out ((tells_inv Ht.out).more (bits8 _))
        rw [← Hnw.out, List.length_append] at h1
        have := Hlim.out
        unfold Hid
        omega
      obtain ⟨i0, hi, hz0, hz1, hz2⟩ := info_parts Try.infoU8
      refine wp_region_hz (z := 7) (S := fun _ => True) (by kernel_rfl) trivial (fun hHeld => ?_)
      refine wpHz_taken 0 33 ?v1 (by kernel_rfl) (by kernel_rfl) (by kernel_rfl) (by kernel_rfl) (by kernel_rfl) (fun _ _ _ h => h) (by rfl) ?hy1 (by assumption) ?rest1
      case hy1 => intro w hSw; (try dsimp only at hSw); simp only [List.getElem?_toArray, List.getElem?_cons_zero, List.getElem?_cons_succ]; go_simp; (try with_reducible rfl)
      try simp only [Act.put, List.setIfInBounds_toArray, List.set_cons_zero, List.set_cons_succ]
      refine wpHz_taken 1 34 ?v2 (by kernel_rfl) (by kernel_rfl) (by kernel_rfl) (by kernel_rfl) (by kernel_rfl) (fun _ _ _ h => h) (by rfl) ?hy2 (by assumption) ?rest2
      case hy2 => intro w hSw; (try dsimp only at hSw); simp only [List.getElem?_toArray, List.getElem?_cons_zero, List.getElem?_cons_succ]; go_simp; (try with_reducible rfl)
      try simp only [Act.put, List.setIfInBounds_toArray, List.set_cons_zero, List.set_cons_succ]
      refine wpHz_taken 3 36 ?v3 (by kernel_rfl) (by kernel_rfl) (by kernel_rfl) (by kernel_rfl) (by kernel_rfl) (fun _ _ _ h => h) (by rfl) ?hy3 (by assumption) ?rest3
      case hy3 => intro w hSw; (try dsimp only at hSw); simp only [List.getElem?_toArray, List.getElem?_cons_zero, List.getElem?_cons_succ]; go_simp; (try with_reducible rfl)
      try simp only [Act.put, List.setIfInBounds_toArray, List.set_cons_zero, List.set_cons_succ]
      refine wpHz_taken 4 37 ?v4 (by kernel_rfl) (by kernel_rfl) (by kernel_rfl) (by kernel_rfl) (by kernel_rfl) (fun _ _ _ h => h) (by rfl) ?hy4 (by assumption) ?rest4
      case hy4 => intro w hSw; (try dsimp only at hSw); simp only [List.getElem?_toArray, List.getElem?_cons_zero, List.getElem?_cons_succ]; go_simp; (try with_reducible rfl)
      try simp only [Act.put, List.setIfInBounds_toArray, List.set_cons_zero, List.set_cons_succ]
      refine wpHz_taken 5 38 ?v5 (by kernel_rfl) (by kernel_rfl) (by kernel_rfl) (by kernel_rfl) (by kernel_rfl) (fun _ _ _ h => h) (by rfl) ?hy5 (by assumption) ?rest5
      case hy5 => intro w hSw; (try dsimp only at hSw); simp only [List.getElem?_toArray, List.getElem?_cons_zero, List.getElem?_cons_succ]; go_simp; (try with_reducible rfl)
      try simp only [Act.put, List.setIfInBounds_toArray, List.set_cons_zero, List.set_cons_succ]
      refine wpHz_one 2 (by kernel_rfl) (by rfl) (fun K hK => ?_)
      simp only [List.getElem?_toArray, List.getElem?_cons_zero, List.getElem?_cons_succ]
      refine wp_append_sat _ _ _ 43 43 rfl 5 i0 (.int .u8 0) 1 1 Try.underlying43 hi hz0 hz1 hz2 rfl (by decide) s.hist.length _ _ _ rfl hS5 nw.length _ _ rfl Hsrc.out (by have := Hcap.out; unfold maxLen; omega) (by have := Hcap.out; omega) ?_
      intro v9 w9 hS9
      obtain ⟨F9, ao9, cap9, rfl, -, -, -, -⟩ := hS9.at_ 0 _ rfl
      clear hHeld
      refine hK.out _ _ (fun _ => trivial) (fun hHeld => ?_)
      replace hHeld := hHeld (by decide)
      clear hK K
      try simp only [Act.put, List.setIfInBounds_toArray, List.set_cons_zero, List.set_cons_succ]
      refine wpHz_one 6 (by kernel_rfl) (by rfl) (fun K hK => ?_)
      simp only [List.getElem?_toArray, List.getElem?_cons_zero, List.getElem?_cons_succ]
      go_simp
      clear hHeld
      refine hK.out _ _ (fun _ => trivial) (fun hHeld => ?_)
      replace hHeld := hHeld (by decide)
      clear hK K
      try simp only [Act.put, List.setIfInBounds_toArray, List.set_cons_zero, List.set_cons_succ]
      refine wpHz_one 7 (by kernel_rfl) (by rfl) (fun K hK => ?_)
      simp only [List.getElem?_toArray, List.getElem?_cons_zero, List.getElem?_cons_succ]
      go_simp
      refine hK.out _ _ (fun h => absurd rfl h) (fun _ => ?_)
      clear hK K
      try simp only [Act.put, List.setIfInBounds_toArray, List.set_cons_zero, List.set_cons_succ]
      refine wpHz_done (by kernel_rfl) ?_ _
      have HS9 := Lib.hid hS9
      obtain ⟨q, Hq⟩ : ∃ q, Hid ((if bap = b.length then bo else Option.map (fun x => x.add b.length) bo) = q) := ⟨_, Lib.hid rfl⟩
      rw [Hq.out]
      clear hS9 hS5 hHeld
      have hT : Tells lim ys r := by
        have h1 := Hr.out
        rw [List.take_length] at h1
        rw [Hab.out]
        exact tells_app Ht.out h1
      have hF : Sat w9 (sl 5 1 r.hist.length (.slice ao9 (s.hist.length + nw.length) cap9) (r.hist.map byteV) :: decRes d lim r :: Rs) := by
        rw [← Hnw.out, List.length_append, List.map_append]
        exact Sat.perm (As := [_, _, _]) HS9.out [0, 2] [_, _] rfl (by simp)
      have HT := Lib.hid hT
      have HF := Lib.hid hF
      have hdd : ∀ hist e, r = .bad hist e → e ≠ 0 := by
        intro hist e h
        subst h
        obtain ⟨_, _, _, _, h1, -⟩ := dead_open (Sat.front hF 1 _ rfl)
        exact h1.1
      clear hT hF HS9 HS3 Hsrc Hcap Hr Hnw
      cases r with
      | ok t =>
        have hE0 : (DRes.ok t).err = 0 := rfl
        clear hdd
        go_wp2
        go_ret3
        exact ⟨.ok t, _, d, HT.out, rfl, HF.out⟩
      | bad hist e =>
        have hE0 : (DRes.bad hist e).err = e := rfl
        have he0 : ¬ e = 0 := hdd hist e rfl
        have heI : ((e : Int) != 0) = true := bne_iff_ne.2 (by omega)
        clear hdd
        go_wp2
        go_ret3
        exact ⟨.bad hist e, _, d, HT.out, rfl, HF.out⟩

end Go.Proofs.Ytobkmkdnkdbgeaa
