/- all of layer 8's laws. -/
import Derived.Test.YtdpocnkeokplpaaZFx
namespace Go.Proofs.Ytdpocnkeokplpaa
open Go.RowKit Go.Hal
set_option linter.unusedVariables false
set_option linter.unusedSimpArgs false

theorem zt_cap {lim : Int} {ys : List UInt8} {s : ZS} (h : ZT lim ys s) : (s.q.hist.length : Int) ≤ max 0 lim := by
  cases h with
  | short | form => show ((0 : Nat) : Int) ≤ _; omega
  | on _ hT => exact tells_cap hT
  | foot _ hT _ _ hh => have := tells_cap hT; rw [← hh] at this; exact this
  | good _ hT _ _ hh => have := tells_cap hT; rw [← hh] at this; exact this
  | sum _ hT _ _ hh => have := tells_cap hT; rw [← hh] at this; exact this

/-- What `all` comes to. -/
def ZAllP (lim : Int) (ys : List UInt8) (Rs : List Res) (e' : Ending) (w' : World) : Prop := ∃ s ov z, ZT lim ys s ∧ e' = .returned (.tuple #[ov, .int .i64 (s.e : Nat), .pointer (some ⟨z, 0, none⟩)]) ∧
  Sat w' (sl 5 1 s.q.hist.length ov (s.q.hist.map byteV) :: zd z lim s :: Rs)

set_option maxRecDepth 100000 in
set_option maxHeartbeats 4000000 in
theorem zall_any {w : World} {lim : Int} {N : Nat} {Rs : List Res} (hlim : lim ≤ 65535) (hS : Sat w Rs) {v : Value} {ys : List UInt8} (hv : ∀ w', Sat w' Rs → SlR w' 5 1 ys.length v (ys.map byteV)) (hy : ys.length ≤ 1048576) (hN : 1 ≤ N) (hN2 : N ≤ 10001) :
    Calls Try.prog 25 #[v, .int .i64 N, .int .i64 lim] w (ZAllP lim ys Rs) := by
  have Hnew := Lib.hid (zNew_any hS lim)
  obtain ⟨ao, cap, rfl, -, -, -, -⟩ := hv w hS
  have Hv := Lib.hid hv
  have Hy := Lib.hid hy
  have Hlim := Lib.hid hlim
  have HN : Hid (1 ≤ N ∧ N ≤ 10001) := ⟨hN, hN2⟩
  clear hS hv hy hlim hN hN2
  go_enter Try.func25, Try.ntmps25
  go_wp2_with (go_at_call 60; (with_reducible refine Hnew.out.mono ?_); rintro e' w2 ⟨z, rfl, hS2⟩; have HS2 := Lib.hid hS2; clear hS2 Hnew)
  go_loopg [0, 10] (ys.length + 1) (fun g bv ov wr => ∃ (a b : List UInt8) (s : ZS), Hid (b.length + 1 ≤ g) ∧ Hid (ys = a ++ b) ∧ Hid (ZT lim a s) ∧ Hid (∀ w', Sat w' Rs → SlR w' 5 1 b.length bv (b.map byteV)) ∧ Hid (Sat wr (zd z lim s :: sl 5 1 s.q.hist.length ov (s.q.hist.map byteV) :: Rs)))
  case atStart => exact ⟨[], ys, ⟨.ok ds0, [], [], [], false, 0⟩, Nat.le_refl _, rfl, zt_nil lim, Hv, Sat.swap (HS2.out.sl_nil 5 1 none)⟩
  case round =>
    clear HS2 Hv
    obtain ⟨a, b, s, Hg, Hab, HT, HV, HW⟩ := hrel
    obtain ⟨bo, bap, rfl, hbc, hbm, -, -⟩ := HV.out wr HW.out.tail.tail
    obtain ⟨F, oo, oap, rfl, -, -, -, -⟩ := HW.out.at_ 1 _ rfl
    unfold maxLen at hbm
    have Hbl : Hid (a.length + b.length ≤ 1048576) := by have := Hy.out; rw [Hab.out, List.length_append] at this; exact this
    obtain ⟨K, hK⟩ : ∃ K : Nat, K = min N b.length := ⟨_, rfl⟩
    have hKb : K ≤ b.length := by omega
    have hKI : min (N : Int) (b.length : Int) = (K : Int) := by omega
    have hKc : K ≤ bap := by omega
    have HK := Lib.hid hK
    clear hK
    go_upto_region 3 with (fail)
    go_cut [11] from 16 to 43 (fun s11 wx => s11 = .int .i64 K ∧ wx = wr)
    case first =>
      go_wp2
      all_goals first
        | (exfalso; have := HK.out; omega)
        | (go_meet
           exact ⟨vi (by have := HK.out; omega), rfl⟩)
    obtain ⟨rfl, rfl⟩ := hcut
    have hKI0 : (0 : Int) ≤ (K : Int) := by omega
    have hKIb : (K : Int) ≤ (b.length : Int) := by omega
    have hKIc : (K : Int) ≤ (bap : Int) := by omega
    have hbk : (b.take K).length = K := by rw [List.length_take]; omega
    have hp := zPush_any (b := b.take K) (v := .slice bo K bap) Hlim.out HT.out (by rw [hbk]; have := Hbl.out; omega) HW.out (fun w' h' => by
      have h9 := sl_hd (HV.out w' h'.tail) K hKb
      rw [hbk, List.map_take]
      exact h9)
    have Hp := Lib.hid hp
    clear hp hbk hKI
    go_upto_region 5 with (go_at_call 29; (with_reducible refine Hp.out.mono ?_); rintro e' w3 ⟨s2, nw, ov, hT2, hh, rfl, hS3⟩; obtain ⟨_, xo, xap, hxv, -, -, -, -⟩ := hS3.at_ 0 _ rfl; subst hxv; have HT2 := Lib.hid hT2; have Hh := Lib.hid hh; have HS3 := Lib.hid hS3; clear hT2 hh hS3 Hp)
    have hS5 := Sat.perm (As := [_, _, _]) HS3.out.drew [2, 0, 1] [_, _, _] rfl (by simp)
    have Hsrc := Lib.hid (SlR.src (P := Try.prog) HS3.out.drew.sl_read Try.underlying22 (byteV_one nw))
    have Hcap : Hid (s.q.hist.length + nw.length ≤ 65535) := by
      have h1 := zt_cap HT2.out
      rw [Hh.out, List.length_append] at h1
      have := Hlim.out
      unfold Hid
      omega
    obtain ⟨i0, hi, hz0, hz1, hz2⟩ := info_parts Try.infoU8
    refine wp_region_hz (z := 7) (S := fun _ => True) (by kernel_rfl) trivial (fun hHeld => ?_)
    refine wpHz_taken 0 28 ?v1 (by kernel_rfl) (by kernel_rfl) (by kernel_rfl) (by kernel_rfl) (by kernel_rfl) (fun _ _ _ h => h) (by rfl) ?hy1 (by assumption) ?rest1
    case hy1 => intro w hSw; (try dsimp only at hSw); simp only [List.getElem?_toArray, List.getElem?_cons_zero, List.getElem?_cons_succ]; go_simp; (try with_reducible rfl)
    try simp only [Act.put, List.setIfInBounds_toArray, List.set_cons_zero, List.set_cons_succ]
    refine wpHz_taken 1 29 ?v2 (by kernel_rfl) (by kernel_rfl) (by kernel_rfl) (by kernel_rfl) (by kernel_rfl) (fun _ _ _ h => h) (by rfl) ?hy2 (by assumption) ?rest2
    case hy2 => intro w hSw; (try dsimp only at hSw); simp only [List.getElem?_toArray, List.getElem?_cons_zero, List.getElem?_cons_succ]; go_simp; (try with_reducible rfl)
    try simp only [Act.put, List.setIfInBounds_toArray, List.set_cons_zero, List.set_cons_succ]
    refine wpHz_taken 3 31 ?v3 (by kernel_rfl) (by kernel_rfl) (by kernel_rfl) (by kernel_rfl) (by kernel_rfl) (fun _ _ _ h => h) (by rfl) ?hy3 (by assumption) ?rest3
    case hy3 => intro w hSw; (try dsimp only at hSw); simp only [List.getElem?_toArray, List.getElem?_cons_zero, List.getElem?_cons_succ]; go_simp; (try with_reducible rfl)
    try simp only [Act.put, List.setIfInBounds_toArray, List.set_cons_zero, List.set_cons_succ]
    refine wpHz_taken 4 32 ?v4 (by kernel_rfl) (by kernel_rfl) (by kernel_rfl) (by kernel_rfl) (by kernel_rfl) (fun _ _ _ h => h) (by rfl) ?hy4 (by assumption) ?rest4
    case hy4 => intro w hSw; (try dsimp only at hSw); simp only [List.getElem?_toArray, List.getElem?_cons_zero, List.getElem?_cons_succ]; go_simp; (try with_reducible rfl)
    try simp only [Act.put, List.setIfInBounds_toArray, List.set_cons_zero, List.set_cons_succ]
    refine wpHz_taken 5 33 ?v5 (by kernel_rfl) (by kernel_rfl) (by kernel_rfl) (by kernel_rfl) (by kernel_rfl) (fun _ _ _ h => h) (by rfl) ?hy5 (by assumption) ?rest5
    case hy5 => intro w hSw; (try dsimp only at hSw); simp only [List.getElem?_toArray, List.getElem?_cons_zero, List.getElem?_cons_succ]; go_simp; (try with_reducible rfl)
    try simp only [Act.put, List.setIfInBounds_toArray, List.set_cons_zero, List.set_cons_succ]
    refine wpHz_one 2 (by kernel_rfl) (by rfl) (fun K hK => ?_)
    simp only [List.getElem?_toArray, List.getElem?_cons_zero, List.getElem?_cons_succ]
    refine wp_append_sat _ _ _ 22 22 rfl 5 i0 (.int .u8 0) 1 1 Try.underlying22 hi hz0 hz1 hz2 rfl (by decide) s.q.hist.length _ _ _ rfl hS5 nw.length _ _ rfl Hsrc.out (by have := Hcap.out; unfold maxLen; omega) (by have := Hcap.out; omega) ?_
    intro v9 w9 hS9
    obtain ⟨F9, ao9, cap9, rfl, -, -, -, -⟩ := hS9.at_ 0 _ rfl
    clear hHeld
    refine hK.out _ _ (fun _ => trivial) (fun hHeld => ?_)
    replace hHeld := hHeld (by decide)
    clear hK K
    try simp only [Act.put, List.setIfInBounds_toArray, List.set_cons_zero, List.set_cons_succ]
    refine wpHz_one 6 (by kernel_rfl) (by rfl) (fun K hK => ?_)
    simp only [List.getElem?_toArray, List.getElem?_cons_zero, List.getElem?_cons_succ]
    go_simp
    clear hHeld
    refine hK.out _ _ (fun _ => trivial) (fun hHeld => ?_)
    replace hHeld := hHeld (by decide)
    clear hK K
    try simp only [Act.put, List.setIfInBounds_toArray, List.set_cons_zero, List.set_cons_succ]
    refine wpHz_one 7 (by kernel_rfl) (by rfl) (fun K hK => ?_)
    simp only [List.getElem?_toArray, List.getElem?_cons_zero, List.getElem?_cons_succ]
    go_simp
    refine hK.out _ _ (fun h => absurd rfl h) (fun _ => ?_)
    clear hK K
    try simp only [Act.put, List.setIfInBounds_toArray, List.set_cons_zero, List.set_cons_succ]
    refine wpHz_done (by kernel_rfl) ?_ _
    have HS9 := Lib.hid hS9
    obtain ⟨q, Hq⟩ : ∃ q, Hid ((if bap = K then bo else Option.map (fun x => x.add K) bo) = q) := ⟨_, Lib.hid rfl⟩
    rw [Hq.out]
    clear hS9 hS5 hHeld
    have HF : Hid (Sat w9 (sl 5 1 s2.q.hist.length (.slice ao9 (s.q.hist.length + nw.length) cap9) (s2.q.hist.map byteV) :: zd z lim s2 :: Rs)) := by
      unfold Hid
      rw [Hh.out, List.length_append, List.map_append]
      exact Sat.perm (As := [_, _, _]) HS9.out [0, 2] [_, _] rfl (by simp)
    have hlb : s.q.hist.length + nw.length = s2.q.hist.length := by rw [Hh.out, List.length_append]
    have Hcat : Hid (ys = (a ++ b.take K) ++ b.drop K) := by unfold Hid; rw [List.append_assoc, List.take_append_drop]; exact Hab.out
    rw [hlb] at HF ⊢
    obtain ⟨M, hM⟩ : ∃ M : Nat, M = b.length - K := ⟨_, rfl⟩
    have hMd : (b.drop K).length = M := by rw [List.length_drop, hM]
    have HMd := Lib.hid hMd
    obtain ⟨E, HE⟩ : ∃ E, Hid (E = s2.e) := ⟨_, Lib.hid rfl⟩
    rw [← HE.out]
    clear HS9 HS3 Hsrc Hcap hlb HW hMd
    rw [← hM]
    have HM := Lib.hid hM
    have HkM : Hid (1 ≤ b.length → M < b.length) := by intro h; have := HK.out; have := HN.out.1; omega
    clear hM hKb hKc hKI0 hKIb hKIc hbc hbm
    by_cases hE : E = 0
    · subst hE
      by_cases hM0 : M = 0
      · subst hM0
        have HT9 : Hid (ZT lim ys s2) := by
          unfold Hid
          rw [Hcat.out, List.eq_nil_of_length_eq_zero HMd.out, List.append_nil]
          exact HT2.out
        go_wp2
        go_ret3
        exact ⟨s2, _, z, HT9.out, by rw [← HE.out]; rfl, HF.out⟩
      · have hMI : ((M : Int) == 0) = false := beq_eq_false_iff_ne.2 (by omega)
        have hMN : (M == 0) = false := beq_eq_false_iff_ne.2 hM0
        have HV2 : Hid (∀ w', Sat w' Rs → SlR w' 5 1 (b.drop K).length (.slice q M (bap - K)) ((b.drop K).map byteV)) := by
          intro w' h'
          have h9 := sl_tl (HV.out w' h') K (by have := HK.out; omega)
          rw [Hq.out, ← HM.out] at h9
          rw [HMd.out, List.map_drop]
          exact h9
        have Hg2 : Hid (M + 1 < gk) := by have := Hg.out; have h1 := HkM.out (by have := HM.out; omega); unfold Hid; omega
        rw [HMd.out] at HV2
        have HM1 : Hid ((b.drop K).length + 1 ≤ M + 1) := by have := HMd.out; unfold Hid; omega
        go_wp2
        go_roundg (M + 1)
        case measure => exact Hg2.out
        case rel =>
          refine ⟨a ++ b.take K, b.drop K, s2, HM1, Hcat, HT2, ?_, Sat.swap HF.out⟩
          rw [HMd.out]
          exact HV2
    · have hEI : ((E : Int) != 0) = true := bne_iff_ne.2 (by omega)
      have HT9 : Hid (ZT lim ys s2) := by
        unfold Hid
        rw [Hcat.out]
        exact zt_bad HT2.out (by rw [← HE.out]; exact hE)
      go_wp2
      go_ret3
      exact ⟨s2, _, z, HT9.out, by rw [← HE.out]; rfl, HF.out⟩

end Go.Proofs.Ytdpocnkeokplpaa
