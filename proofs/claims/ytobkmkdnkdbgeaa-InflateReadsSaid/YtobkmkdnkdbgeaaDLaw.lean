/- The laws of layer 6: all. -/
import Derived.Test.YtobkmkdnkdbgeaaQo
import Derived.Test.YtobkmkdnkdbgeaaQh
import Derived.OwnWalk
namespace Go.Proofs.Ytobkmkdnkdbgeaa
open Go.RowKit Go.Hal
set_option linter.unusedVariables false
set_option linter.unusedSimpArgs false

/-- The first k bytes of a slice that is read; those behind them. -/
theorem slr_head {w : World} {ao : Option Addr} {n cap : Nat} {xs : List Value} (h : SlR w 5 1 n (.slice ao n cap) xs) (k : Nat) (hk : k ≤ n) : SlR w 5 1 k (.slice ao k cap) (xs.take k) := by
  obtain ⟨ao', cap', heq, k1, k2, k3, k4⟩ := h
  simp only [Value.slice.injEq, true_and] at heq
  obtain ⟨rfl, rfl⟩ := heq
  refine ⟨_, _, rfl, by omega, k2, by rw [List.length_take]; omega, fun h0 => ?_⟩
  obtain ⟨b', o', he, hb, hc⟩ := k4 (by omega)
  refine ⟨b', o', he, hb, fun j u hu => hc j u ?_⟩
  rw [List.getElem?_take] at hu
  split at hu
  · exact hu
  · cases hu

theorem slr_rest {w : World} {ao : Option Addr} {n cap : Nat} {xs : List Value} (h : SlR w 5 1 n (.slice ao n cap) xs) (k : Nat) (hk : k ≤ n) :
    SlR w 5 1 (n - k) (.slice (if cap = k then ao else Option.map (fun x => x.add k) ao) (n - k) (cap - k)) (xs.drop k) := by
  obtain ⟨ao', cap', heq, k1, k2, k3, k4⟩ := h
  simp only [Value.slice.injEq, true_and] at heq
  obtain ⟨rfl, rfl⟩ := heq
  refine ⟨_, _, rfl, by omega, by omega, by rw [List.length_drop]; omega, fun h0 => ?_⟩
  obtain ⟨b', o', rfl, hb, hc⟩ := k4 (by omega)
  refine ⟨b', o' + k, ?_, hb, fun j u hu => ?_⟩
  · rw [if_neg (by omega)]
    show some (Addr.add _ k) = _
    rw [Addr.add_lit]
  · rw [List.getElem?_drop] at hu
    have := hc _ u hu
    rw [← Nat.add_assoc] at this
    exact this

/-- What `all` comes to. -/
def AllP (lim : Int) (ys : List UInt8) (Rs : List Res) (e' : Ending) (w' : World) : Prop := ∃ r ov d, Tells lim ys r ∧ e' = .returned (.tuple #[ov, .int .i64 (r.err : Nat), .pointer (some ⟨d, 0, none⟩)]) ∧
  Sat w' (sl 5 1 r.hist.length ov (r.hist.map byteV) :: decRes d lim r :: Rs)
/-- A loop of `all`: what is known at a round's beginning. -/
def AllJ (lim : Int) (ys a b : List UInt8) (s : DS) (d : Nat) (ov v : Value) (Rs : List Res) (w : World) : Prop :=
  Hid (ys = a ++ b) ∧ Hid (Tells lim a (.ok s)) ∧ (∀ w', Sat w' Rs → SlR w' 5 1 b.length v (b.map byteV)) ∧ Sat w (idle d lim s :: sl 5 1 s.hist.length ov (s.hist.map byteV) :: Rs)

set_option maxRecDepth 100000 in
set_option maxHeartbeats 4000000 in
theorem all_1 {w : World} {lim : Int} {N : Nat} {Rs : List Res} (hlim : lim ≤ 65535) (hS : Sat w Rs) {v : Value} {ys : List UInt8} (hv : ∀ w', Sat w' Rs → SlR w' 5 1 ys.length v (ys.map byteV)) (hy : ys.length ≤ 10000) (hN : 1 ≤ N) (hN2 : N ≤ 10001) :
    Calls Try.prog 33 #[v, .int .i64 N, .int .i64 lim] w (AllP lim ys Rs) := by
  have Hnew := Lib.hid (new_idle hS lim)
  have hvs := hv w hS
  obtain ⟨ao, cap, rfl, hle, hcm, -, hk4⟩ := hvs
  have Hv := Lib.hid hv
  have hNI : decide ((N : Int) < 1) = false := decide_eq_false (by omega)
  have hN0 : ¬ N < 1 := by omega
  have Hy := Lib.hid hy
  have Hlim := Lib.hid hlim
  have HN : Hid (1 ≤ N ∧ N ≤ 10001) := ⟨hN, hN2⟩
  clear hS hv hk4 hle hcm hy hlim hN hN2
  go_enter Try.func33, Try.ntmps33
  go_wp2_with (go_at_call 36; refine Hnew.out.mono ?_; rintro e' w2 ⟨d, rfl, hS2⟩)
  have hJ : AllJ lim ys [] ys ds0 d (.slice none 0 0) (.slice ao ys.length cap) Rs w2 := ⟨rfl, tells_nil lim, Hv.out, Sat.swap (hS2.sl_nil 5 1 none)⟩
  clear hS2 Hnew Hv
  go_loopg [0, 10] (ys.length + 1) (fun g v ov wr => ∃ (a b : List UInt8) (s : DS), b.length + 1 ≤ g ∧ AllJ lim ys a b s d ov v Rs wr)
  case atStart => exact ⟨[], ys, ds0, Nat.le_refl _, hJ⟩
  case round =>
    clear hJ
    obtain ⟨a, b, s, hg, Hab, Ht, hb, hS⟩ := hrel
    have hbs := hb wr (Sat.tail (Sat.tail hS))
    obtain ⟨bo, bap, rfl, hble, hbm, -, hbk⟩ := hbs
    obtain ⟨F, oo, oap, rfl, -, -, -, -⟩ := hS.at_ 1 _ rfl
    unfold maxLen at hbm
    have hbl : b.length ≤ 10000 := by have := Hy.out; rw [Hab.out, List.length_append] at this; omega
    have Hb := Lib.hid hb
    have Hb2 := Lib.hid hb
    by_cases hNb : b.length < N
    · have hKle : b.length ≤ b.length := (Nat.le_refl _)
      have Hp := Lib.hid (push_idle (v := .slice bo b.length bap) (ys := b.take b.length) Hlim.out hS (fun w' h' => by
        have h9 := slr_head (Hb.out w' h'.tail) b.length (Nat.le_refl _)
        rw [List.map_take, show (b.take b.length).length = b.length by rw [List.length_take]; omega]
        exact h9) (by have h1 := tells_bits Ht.out; rw [List.length_take]; have := Hy.out; rw [Hab.out, List.length_append] at this; omega))
      clear hS hb hbk
      go_wp2_with (go_at_call 37; refine Hp.out.mono ?_; rintro e' w3 ⟨r, xv, hr, rfl, hS3⟩; have hp0 := runs_pre hr; have hp1 : s.hist <+: r.hist := hp0; obtain ⟨nw, hnw⟩ := hp1; clear hp0; rw [show r.hist.drop s.hist.length = nw by rw [← hnw]; exact List.drop_left ..] at hS3; obtain ⟨F3, xo, xap, hxv, -, -, -, -⟩ := hS3.at_ 0 _ rfl; subst hxv; have HS3 := Lib.hid hS3; have Hnw := Lib.hid hnw; have Hr := Lib.hid hr; clear Hp hS3 hnw hr)
      have hS5 := Sat.perm (As := [_, _, _]) HS3.out.drew [2, 0, 1] [_, _, _] rfl (by simp)
      have Hsrc := Lib.hid (SlR.src (P := Try.prog) HS3.out.drew.sl_read Try.underlying43 (byteV_one nw))
      have Hcap : Hid (s.hist.length + nw.length ≤ 65535) := by
        have h1 := runs_cap Hr.out ((tells_inv Ht.out).more (bits8 _))
        rw [← Hnw.out, List.length_append] at h1
        have := Hlim.out
        unfold Hid
        omega
      obtain ⟨i0, hi, hz0, hz1, hz2⟩ := info_parts Try.infoU8
      refine wp_region_hz (z := 7) (S := fun _ => True) (by kernel_rfl) trivial (fun hHeld => ?_)
      refine wpHz_taken 0 33 ?v1 (by kernel_rfl) (by kernel_rfl) (by kernel_rfl) (by kernel_rfl) (by kernel_rfl) (fun _ _ _ h => h) (by rfl) ?hy1 (by assumption) ?rest1
      case hy1 => intro w hSw; (try dsimp only at hSw); simp only [List.getElem?_toArray, List.getElem?_cons_zero, List.getElem?_cons_succ]; go_simp; (try with_reducible rfl)
      try simp only [Act.put, List.setIfInBounds_toArray, List.set_cons_zero, List.set_cons_succ]
      refine wpHz_taken 1 34 ?v2 (by kernel_rfl) (by kernel_rfl) (by kernel_rfl) (by kernel_rfl) (by kernel_rfl) (fun _ _ _ h => h) (by rfl) ?hy2 (by assumption) ?rest2
      case hy2 => intro w hSw; (try dsimp only at hSw); simp only [List.getElem?_toArray, List.getElem?_cons_zero, List.getElem?_cons_succ]; go_simp; (try with_reducible rfl)
      try simp only [Act.put, List.setIfInBounds_toArray, List.set_cons_zero, List.set_cons_succ]
      refine wpHz_taken 3 36 ?v3 (by kernel_rfl) (by kernel_rfl) (by kernel_rfl) (by kernel_rfl) (by kernel_rfl) (fun _ _ _ h => h) (by rfl) ?hy3 (by assumption) ?rest3
      case hy3 => intro w hSw; (try dsimp only at hSw); simp only [List.getElem?_toArray, List.getElem?_cons_zero, List.getElem?_cons_succ]; go_simp; (try with_reducible rfl)
      try simp only [Act.put, List.setIfInBounds_toArray, List.set_cons_zero, List.set_cons_succ]
      refine wpHz_taken 4 37 ?v4 (by kernel_rfl) (by kernel_rfl) (by kernel_rfl) (by kernel_rfl) (by kernel_rfl) (fun _ _ _ h => h) (by rfl) ?hy4 (by assumption) ?rest4
      case hy4 => intro w hSw; (try dsimp only at hSw); simp only [List.getElem?_toArray, List.getElem?_cons_zero, List.getElem?_cons_succ]; go_simp; (try with_reducible rfl)
      try simp only [Act.put, List.setIfInBounds_toArray, List.set_cons_zero, List.set_cons_succ]
      refine wpHz_taken 5 38 ?v5 (by kernel_rfl) (by kernel_rfl) (by kernel_rfl) (by kernel_rfl) (by kernel_rfl) (fun _ _ _ h => h) (by rfl) ?hy5 (by assumption) ?rest5
      case hy5 => intro w hSw; (try dsimp only at hSw); simp only [List.getElem?_toArray, List.getElem?_cons_zero, List.getElem?_cons_succ]; go_simp; (try with_reducible rfl)
      try simp only [Act.put, List.setIfInBounds_toArray, List.set_cons_zero, List.set_cons_succ]
      refine wpHz_one 2 (by kernel_rfl) (by rfl) (fun K hK => ?_)
      simp only [List.getElem?_toArray, List.getElem?_cons_zero, List.getElem?_cons_succ]
      refine wp_append_sat _ _ _ 43 43 rfl 5 i0 (.int .u8 0) 1 1 Try.underlying43 hi hz0 hz1 hz2 rfl (by decide) s.hist.length _ _ _ rfl hS5 nw.length _ _ rfl Hsrc.out (by have := Hcap.out; unfold maxLen; omega) (by have := Hcap.out; omega) ?_
      intro v9 w9 hS9
      obtain ⟨F9, ao9, cap9, rfl, -, -, -, -⟩ := hS9.at_ 0 _ rfl
      clear hHeld
      refine hK.out _ _ (fun _ => trivial) (fun hHeld => ?_)
      replace hHeld := hHeld (by decide)
      clear hK K
      try simp only [Act.put, List.setIfInBounds_toArray, List.set_cons_zero, List.set_cons_succ]
      refine wpHz_one 6 (by kernel_rfl) (by rfl) (fun K hK => ?_)
      simp only [List.getElem?_toArray, List.getElem?_cons_zero, List.getElem?_cons_succ]
      go_simp
      clear hHeld
      refine hK.out _ _ (fun _ => trivial) (fun hHeld => ?_)
      replace hHeld := hHeld (by decide)
      clear hK K
      try simp only [Act.put, List.setIfInBounds_toArray, List.set_cons_zero, List.set_cons_succ]
      refine wpHz_one 7 (by kernel_rfl) (by rfl) (fun K hK => ?_)
      simp only [List.getElem?_toArray, List.getElem?_cons_zero, List.getElem?_cons_succ]
      go_simp
      refine hK.out _ _ (fun h => absurd rfl h) (fun _ => ?_)
      clear hK K
      try simp only [Act.put, List.setIfInBounds_toArray, List.set_cons_zero, List.set_cons_succ]
      refine wpHz_done (by kernel_rfl) ?_ _
      have HS9 := Lib.hid hS9
      obtain ⟨q, Hq⟩ : ∃ q, Hid ((if bap = b.length then bo else Option.map (fun x => x.add b.length) bo) = q) := ⟨_, Lib.hid rfl⟩
      rw [Hq.out]
      clear hS9 hS5 hHeld
      have hT : Tells lim ys r := by
        have h1 := Hr.out
        rw [List.take_length] at h1
        rw [Hab.out]
        exact tells_app Ht.out h1
      have hF : Sat w9 (sl 5 1 r.hist.length (.slice ao9 (s.hist.length + nw.length) cap9) (r.hist.map byteV) :: decRes d lim r :: Rs) := by
        rw [← Hnw.out, List.length_append, List.map_append]
        exact Sat.perm (As := [_, _, _]) HS9.out [0, 2] [_, _] rfl (by simp)
      have HT := Lib.hid hT
      have HF := Lib.hid hF
      have hdd : ∀ hist e, r = .bad hist e → e ≠ 0 := by
        intro hist e h
        subst h
        obtain ⟨_, _, _, _, h1, -⟩ := dead_open (Sat.front hF 1 _ rfl)
        exact h1.1
      clear hT hF HS9 HS3 Hsrc Hcap Hr Hnw
      cases r with
      | ok t =>
        have hE0 : (DRes.ok t).err = 0 := rfl
        clear hdd
        go_wp2
        go_ret3
        exact ⟨.ok t, _, d, HT.out, rfl, HF.out⟩
      | bad hist e =>
        have hE0 : (DRes.bad hist e).err = e := rfl
        have he0 : ¬ e = 0 := hdd hist e rfl
        have heI : ((e : Int) != 0) = true := bne_iff_ne.2 (by omega)
        clear hdd
        go_wp2
        go_ret3
        exact ⟨.bad hist e, _, d, HT.out, rfl, HF.out⟩
    · have hKle : N ≤ b.length := (by omega)
      have Hp := Lib.hid (push_idle (v := .slice bo N bap) (ys := b.take N) Hlim.out hS (fun w' h' => by
        have h9 := slr_head (Hb.out w' h'.tail) N (by omega)
        rw [List.map_take, show (b.take N).length = N by rw [List.length_take]; omega]
        exact h9) (by have h1 := tells_bits Ht.out; rw [List.length_take]; have := Hy.out; rw [Hab.out, List.length_append] at this; omega))
      clear hS hb hbk
      go_wp2_with (go_at_call 37; refine Hp.out.mono ?_; rintro e' w3 ⟨r, xv, hr, rfl, hS3⟩; have hp0 := runs_pre hr; have hp1 : s.hist <+: r.hist := hp0; obtain ⟨nw, hnw⟩ := hp1; clear hp0; rw [show r.hist.drop s.hist.length = nw by rw [← hnw]; exact List.drop_left ..] at hS3; obtain ⟨F3, xo, xap, hxv, -, -, -, -⟩ := hS3.at_ 0 _ rfl; subst hxv; have HS3 := Lib.hid hS3; have Hnw := Lib.hid hnw; have Hr := Lib.hid hr; clear Hp hS3 hnw hr)
      have hS5 := Sat.perm (As := [_, _, _]) HS3.out.drew [2, 0, 1] [_, _, _] rfl (by simp)
      have Hsrc := Lib.hid (SlR.src (P := Try.prog) HS3.out.drew.sl_read Try.underlying43 (byteV_one nw))
      have Hcap : Hid (s.hist.length + nw.length ≤ 65535) := by
        have h1 := runs_cap Hr.out ((tells_inv Ht.out).more (bits8 _))
        rw [← Hnw.out, List.length_append] at h1
        have := Hlim.out
        unfold Hid
        omega
      obtain ⟨i0, hi, hz0, hz1, hz2⟩ := info_parts Try.infoU8
      refine wp_region_hz (z := 7) (S := fun _ => True) (by kernel_rfl) trivial (fun hHeld => ?_)
      refine wpHz_taken 0 33 ?v8 (by kernel_rfl) (by kernel_rfl) (by kernel_rfl) (by kernel_rfl) (by kernel_rfl) (fun _ _ _ h => h) (by rfl) ?hy8 (by assumption) ?rest8
      case hy8 => intro w hSw; (try dsimp only at hSw); simp only [List.getElem?_toArray, List.getElem?_cons_zero, List.getElem?_cons_succ]; go_simp; (try with_reducible rfl)
      try simp only [Act.put, List.setIfInBounds_toArray, List.set_cons_zero, List.set_cons_succ]
      refine wpHz_taken 1 34 ?v9 (by kernel_rfl) (by kernel_rfl) (by kernel_rfl) (by kernel_rfl) (by kernel_rfl) (fun _ _ _ h => h) (by rfl) ?hy9 (by assumption) ?rest9
      case hy9 => intro w hSw; (try dsimp only at hSw); simp only [List.getElem?_toArray, List.getElem?_cons_zero, List.getElem?_cons_succ]; go_simp; (try with_reducible rfl)
      try simp only [Act.put, List.setIfInBounds_toArray, List.set_cons_zero, List.set_cons_succ]
      refine wpHz_taken 3 36 ?v10 (by kernel_rfl) (by kernel_rfl) (by kernel_rfl) (by kernel_rfl) (by kernel_rfl) (fun _ _ _ h => h) (by rfl) ?hy10 (by assumption) ?rest10
      case hy10 => intro w hSw; (try dsimp only at hSw); simp only [List.getElem?_toArray, List.getElem?_cons_zero, List.getElem?_cons_succ]; go_simp; (try with_reducible rfl)
      try simp only [Act.put, List.setIfInBounds_toArray, List.set_cons_zero, List.set_cons_succ]
      refine wpHz_taken 4 37 ?v11 (by kernel_rfl) (by kernel_rfl) (by kernel_rfl) (by kernel_rfl) (by kernel_rfl) (fun _ _ _ h => h) (by rfl) ?hy11 (by assumption) ?rest11
      case hy11 => intro w hSw; (try dsimp only at hSw); simp only [List.getElem?_toArray, List.getElem?_cons_zero, List.getElem?_cons_succ]; go_simp; (try with_reducible rfl)
      try simp only [Act.put, List.setIfInBounds_toArray, List.set_cons_zero, List.set_cons_succ]
      refine wpHz_taken 5 38 ?v12 (by kernel_rfl) (by kernel_rfl) (by kernel_rfl) (by kernel_rfl) (by kernel_rfl) (fun _ _ _ h => h) (by rfl) ?hy12 (by assumption) ?rest12
      case hy12 => intro w hSw; (try dsimp only at hSw); simp only [List.getElem?_toArray, List.getElem?_cons_zero, List.getElem?_cons_succ]; go_simp; (try with_reducible rfl)
      try simp only [Act.put, List.setIfInBounds_toArray, List.set_cons_zero, List.set_cons_succ]
      refine wpHz_one 2 (by kernel_rfl) (by rfl) (fun K hK => ?_)
      simp only [List.getElem?_toArray, List.getElem?_cons_zero, List.getElem?_cons_succ]
      refine wp_append_sat _ _ _ 43 43 rfl 5 i0 (.int .u8 0) 1 1 Try.underlying43 hi hz0 hz1 hz2 rfl (by decide) s.hist.length _ _ _ rfl hS5 nw.length _ _ rfl Hsrc.out (by have := Hcap.out; unfold maxLen; omega) (by have := Hcap.out; omega) ?_
      intro v9 w9 hS9
      obtain ⟨F9, ao9, cap9, rfl, -, -, -, -⟩ := hS9.at_ 0 _ rfl
      clear hHeld
      refine hK.out _ _ (fun _ => trivial) (fun hHeld => ?_)
      replace hHeld := hHeld (by decide)
      clear hK K
      try simp only [Act.put, List.setIfInBounds_toArray, List.set_cons_zero, List.set_cons_succ]
      refine wpHz_one 6 (by kernel_rfl) (by rfl) (fun K hK => ?_)
      simp only [List.getElem?_toArray, List.getElem?_cons_zero, List.getElem?_cons_succ]
      go_simp
      clear hHeld
      refine hK.out _ _ (fun _ => trivial) (fun hHeld => ?_)
      replace hHeld := hHeld (by decide)
      clear hK K
      try simp only [Act.put, List.setIfInBounds_toArray, List.set_cons_zero, List.set_cons_succ]
      refine wpHz_one 7 (by kernel_rfl) (by rfl) (fun K hK => ?_)
      simp only [List.getElem?_toArray, List.getElem?_cons_zero, List.getElem?_cons_succ]
      go_simp
      refine hK.out _ _ (fun h => absurd rfl h) (fun _ => ?_)
      clear hK K
      try simp only [Act.put, List.setIfInBounds_toArray, List.set_cons_zero, List.set_cons_succ]
      refine wpHz_done (by kernel_rfl) ?_ _
      have HS9 := Lib.hid hS9
      obtain ⟨q, Hq⟩ : ∃ q, Hid ((if bap = N then bo else Option.map (fun x => x.add N) bo) = q) := ⟨_, Lib.hid rfl⟩
      rw [Hq.out]
      clear hS9 hS5 hHeld
      have hF : Sat w9 (sl 5 1 r.hist.length (.slice ao9 (s.hist.length + nw.length) cap9) (r.hist.map byteV) :: decRes d lim r :: Rs) := by
        rw [← Hnw.out, List.length_append, List.map_append]
        exact Sat.perm (As := [_, _, _]) HS9.out [0, 2] [_, _] rfl (by simp)
      have hT : Tells lim (a ++ b.take N) r := tells_app Ht.out Hr.out
      have hcat : ys = (a ++ b.take N) ++ b.drop N := by rw [List.append_assoc, List.take_append_drop]; exact Hab.out
      have HT := Lib.hid hT
      have HF := Lib.hid hF
      have Hcat := Lib.hid hcat
      have hdd : ∀ hist e, r = .bad hist e → e ≠ 0 := by
        intro hist e h
        subst h
        obtain ⟨_, _, _, _, h1, -⟩ := dead_open (Sat.front hF 1 _ rfl)
        exact h1.1
      have hlb : s.hist.length + nw.length = r.hist.length := by rw [← Hnw.out, List.length_append]
      have Hlb := Lib.hid hlb
      clear hT hF HS9 HS3 Hsrc Hcap Hr Hnw hcat hlb
      cases r with
      | ok t =>
        have hE0 : (DRes.ok t).err = 0 := rfl
        clear hdd
        by_cases hlen0 : b.length - N = 0
        · have hT2 : Tells lim ys (.ok t) := by
            have h1 := HT.out
            rw [Hcat.out, List.drop_of_length_le (by omega), List.append_nil]
            exact h1
          have HT2 := Lib.hid hT2
          clear hT2
          go_wp2
          go_ret3
          exact ⟨.ok t, _, d, HT2.out, rfl, HF.out⟩
        · go_wp2
          go_roundg (b.length - N + 1)
          case measure => have h1 : 1 ≤ N := HN.out.1; omega
          case rel =>
            refine ⟨a ++ b.take N, b.drop N, t, ?_, Hcat.out, HT.out, fun w' h' => ?_, ?_⟩
            · rw [List.length_drop]
              exact Nat.le_refl _
            · have h9 := slr_rest (Hb.out w' h') N (by omega)
              rw [Hq.out] at h9
              rw [List.map_drop, List.length_drop]
              exact h9
            · exact Sat.swap HF.out
      | bad hist e =>
        have hE0 : (DRes.bad hist e).err = e := rfl
        have he0 : ¬ e = 0 := hdd hist e rfl
        have heI : ((e : Int) != 0) = true := bne_iff_ne.2 (by omega)
        clear hdd
        go_wp2
        go_ret3
        exact ⟨.bad hist e, _, d, by rw [Hcat.out]; exact tells_bad HT.out, rfl, HF.out⟩

end Go.Proofs.Ytobkmkdnkdbgeaa
