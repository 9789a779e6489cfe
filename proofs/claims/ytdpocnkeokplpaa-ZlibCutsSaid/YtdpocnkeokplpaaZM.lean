/- zlib.Decoder: what bytes make of it (plain), New, Done, Rest, Total. -/
import Derived.Test.YtdpocnkeokplpaaZD
namespace Go.Proofs.Ytdpocnkeokplpaa
open Go.RowKit Go.Hal
set_option linter.unusedVariables false
set_option linter.unusedSimpArgs false

theorem rest_len {lim : Int} {ys rs : List UInt8} {q : DRes} (h : Tells lim ys q) (hr : RestOk q rs) : rs.length ≤ ys.length := by
  cases q with
  | ok s =>
    have hr : if s.st = 12 then bitsOf rs = s.bits else rs = [] := hr
    by_cases hs : s.st = 12
    · rw [if_pos hs] at hr
      have h1 := tells_bits h
      rw [← hr, bitsOf_length] at h1
      omega
    · rw [if_neg hs] at hr
      subst hr; exact Nat.zero_le _
  | bad hist e =>
    have hr : rs = [] := hr
    subst hr; exact Nat.zero_le _
theorem rest_nil {q : DRes} {rs : List UInt8} (hr : RestOk q rs) (h : q.done = false) : rs = [] := by
  cases q with
  | ok s =>
    have hr : if s.st = 12 then bitsOf rs = s.bits else rs = [] := hr
    by_cases hs : s.st = 12
    · have h : (s.st == 12) = false := h
      rw [hs] at h; cases h
    · rw [if_neg hs] at hr; exact hr
  | bad hist e => exact hr
theorem push_next {w : World} {d : Nat} {lim : Int} {q : DRes} {a ys : List UInt8} {Rs : List Res} (hlim : lim ≤ 65535) (ha : Tells lim a q) (hal : a.length ≤ 1048576) (hS : Sat w (decRes d lim q :: Rs)) {v : Value} (hv : ∀ w', Sat w' Rs → SlR w' 5 1 ys.length v (ys.map byteV)) (hy : ys.length ≤ 1048576) :
    Calls Try.prog 19 #[.pointer (some ⟨d, 0, none⟩), v] w fun e' w' => ∃ q2 nw ov, Tells lim (a ++ ys) q2 ∧ q2.hist = q.hist ++ nw ∧ e' = .returned (.tuple #[ov, .int .i64 (q2.err : Nat)]) ∧
      Sat w' (sl 5 1 nw.length ov (nw.map byteV) :: decRes d lim q2 :: Rs) := by
  cases q with
  | ok s =>
    refine (push_idle hlim hS hv (by have := tells_bits ha; omega)).mono ?_
    rintro e' w' ⟨r, ov, h1, rfl, h2⟩
    have h3 : (s.more (bitsOf ys)).hist <+: r.hist := runs_pre h1
    obtain ⟨nw, hnw⟩ := h3
    replace hnw : s.hist ++ nw = r.hist := hnw
    refine ⟨r, nw, ov, tells_app ha h1, hnw.symm, rfl, ?_⟩
    rw [show r.hist.drop s.hist.length = nw by rw [← hnw]; exact List.drop_left ..] at h2
    exact h2
  | bad hist e =>
    obtain ⟨ao, cap, rfl, -, -, -, -⟩ := hv w hS.tail
    refine (push_dead (show Sat w (dead d lim hist e :: Rs) from hS) ao _ cap).mono ?_
    rintro e' w' ⟨rfl, h⟩
    exact ⟨.bad hist e, [], _, tells_bad ha, (List.append_nil _).symm, rfl, Sat.sl_nil h 5 1 none⟩

/-- What comes behind the end adds to the rest. -/
theorem tells_behind {lim : Int} {a b rs : List UInt8} {Q : DRes} (h : Tells lim a Q) (hd : Q.done = true) (hr : RestOk Q rs) : ∃ Q2, Tells lim (a ++ b) Q2 ∧ Q2.done = true ∧ Q2.hist = Q.hist ∧ RestOk Q2 (rs ++ b) := by
  cases Q with
  | bad hist e => cases hd
  | ok s =>
    have hs : s.st = 12 := beq_iff_eq.1 (show (s.st == 12) = true from hd)
    have hst : dstep lim (s.more (bitsOf b)) = .stop := by unfold dstep; rw [show (s.more (bitsOf b)).st = 12 from hs]; rfl
    refine ⟨.ok (s.more (bitsOf b)), tells_app h (.stop hst), hd, rfl, ?_⟩
    have hr : if s.st = 12 then bitsOf rs = s.bits else rs = [] := hr
    rw [if_pos hs] at hr
    show if s.st = 12 then bitsOf (rs ++ b) = s.bits ++ bitsOf b else rs ++ b = []
    rw [if_pos hs, bitsOf_append, hr]
theorem done_err {Q : DRes} (h : Q.done = true) : Q.err = 0 := by
  cases Q with
  | ok s => rfl
  | bad hist e => cases h

/-- A head that is taken. -/
def HeadOk (a c : UInt8) : Prop := a.toNat % 16 = 8 ∧ a.toNat / 16 ≤ 7 ∧ c.toNat / 32 % 2 = 0 ∧ (256 * a.toNat + c.toNat) % 31 = 0
/-- What bytes make of a decoder. -/
inductive ZT (lim : Int) : List UInt8 → ZS → Prop
  | short {ys : List UInt8} : ys.length < 2 → ZT lim ys ⟨.ok ds0, ys, [], [], false, 0⟩
  | form {a c : UInt8} {b : List UInt8} : ¬ HeadOk a c → ZT lim (a :: c :: b) ⟨.ok ds0, [a, c], [], [], false, 3⟩
  | on {a c : UInt8} {b : List UInt8} {Q : DRes} : HeadOk a c → Tells lim b Q → Q.done = false → ZT lim (a :: c :: b) ⟨Q, [a, c], [], [], false, Q.err⟩
  | foot {a c : UInt8} {b rs : List UInt8} {Q q : DRes} : HeadOk a c → Tells lim b Q → Q.done = true → q.done = true → q.hist = Q.hist → RestOk Q rs → rs.length < 4 → ZT lim (a :: c :: b) ⟨q, [a, c], rs, [], false, 0⟩
  | good {a c : UInt8} {b rs : List UInt8} {Q q : DRes} : HeadOk a c → Tells lim b Q → Q.done = true → q.done = true → q.hist = Q.hist → RestOk Q rs → 4 ≤ rs.length → beV (rs.take 4) = adV (adl (1, 0) Q.hist) → ZT lim (a :: c :: b) ⟨q, [a, c], rs.take 4, rs.drop 4, true, 0⟩
  | sum {a c : UInt8} {b rs : List UInt8} {Q q : DRes} : HeadOk a c → Tells lim b Q → Q.done = true → q.done = true → q.hist = Q.hist → RestOk Q rs → 4 ≤ rs.length → beV (rs.take 4) ≠ adV (adl (1, 0) Q.hist) → ZT lim (a :: c :: b) ⟨q, [a, c], rs.take 4, [], false, 4⟩

theorem fin_eq (q : DRes) (head foot rest : List UInt8) (done : Bool) (e : Nat) (b : List UInt8) : ZS.fin ⟨q, head, foot, rest, done, e⟩ b = if (foot ++ b).length < 4 then ⟨q, head, foot ++ b, rest, done, e⟩
    else if beV ((foot ++ b).take 4) = adV (adl (1, 0) q.hist) then ⟨q, head, (foot ++ b).take 4, rest ++ (foot ++ b).drop 4, true, e⟩ else ⟨q, head, (foot ++ b).take 4, rest, done, 4⟩ := rfl
theorem no2 {a c : UInt8} {b : List UInt8} (h : (a :: c :: b).length < 2) : False := by
  rw [List.length_cons, List.length_cons] at h
  omega
theorem zt_nil (lim : Int) : ZT lim [] ⟨.ok ds0, [], [], [], false, 0⟩ := .short (by simp)
/-- What is told of the same bytes is the same. -/
theorem zt_one {lim : Int} {ys : List UInt8} {s t : ZS} (h : ZT lim ys s) (h2 : ZT lim ys t) : s.e = t.e ∧ s.q.hist = t.q.hist ∧ s.done = t.done ∧ s.rest = t.rest := by
  cases h with
  | short h1 =>
    cases h2 with
    | short => exact ⟨rfl, rfl, rfl, rfl⟩
    | _ => exact (no2 h1).elim
  | form h1 =>
    cases h2 with
    | short h => exact (no2 h).elim
    | form => exact ⟨rfl, rfl, rfl, rfl⟩
    | _ => contradiction
  | on h1 hT hd =>
    cases h2 with
    | short h => exact (no2 h).elim
    | form => contradiction
    | on _ hT2 _ => have := tells_one hT hT2; subst this; exact ⟨rfl, rfl, rfl, rfl⟩
    | foot _ hT2 hd2 => have := tells_one hT hT2; subst this; rw [hd] at hd2; cases hd2
    | good _ hT2 hd2 => have := tells_one hT hT2; subst this; rw [hd] at hd2; cases hd2
    | sum _ hT2 hd2 => have := tells_one hT hT2; subst this; rw [hd] at hd2; cases hd2
  | foot h1 hT hd hq hh hr hl =>
    cases h2 with
    | short h => exact (no2 h).elim
    | form => contradiction
    | on _ hT2 hd2 => have := tells_one hT hT2; subst this; rw [hd] at hd2; cases hd2
    | foot _ hT2 hd2 hq2 hh2 hr2 hl2 => have := tells_one hT hT2; subst this; exact ⟨rfl, hh.trans hh2.symm, rfl, rfl⟩
    | good _ hT2 hd2 hq2 hh2 hr2 hl2 => have := tells_one hT hT2; subst this; have := rest_one hr hr2; subst this; omega
    | sum _ hT2 hd2 hq2 hh2 hr2 hl2 => have := tells_one hT hT2; subst this; have := rest_one hr hr2; subst this; omega
  | good h1 hT hd hq hh hr hl hs =>
    cases h2 with
    | short h => exact (no2 h).elim
    | form => contradiction
    | on _ hT2 hd2 => have := tells_one hT hT2; subst this; rw [hd] at hd2; cases hd2
    | foot _ hT2 hd2 hq2 hh2 hr2 hl2 => have := tells_one hT hT2; subst this; have := rest_one hr hr2; subst this; omega
    | good _ hT2 hd2 hq2 hh2 hr2 hl2 => have := tells_one hT hT2; subst this; have := rest_one hr hr2; subst this; exact ⟨rfl, hh.trans hh2.symm, rfl, rfl⟩
    | sum _ hT2 hd2 hq2 hh2 hr2 hl2 hs2 => have := tells_one hT hT2; subst this; have := rest_one hr hr2; subst this; contradiction
  | sum h1 hT hd hq hh hr hl hs =>
    cases h2 with
    | short h => exact (no2 h).elim
    | form => contradiction
    | on _ hT2 hd2 => have := tells_one hT hT2; subst this; rw [hd] at hd2; cases hd2
    | foot _ hT2 hd2 hq2 hh2 hr2 hl2 => have := tells_one hT hT2; subst this; have := rest_one hr hr2; subst this; omega
    | good _ hT2 hd2 hq2 hh2 hr2 hl2 hs2 => have := tells_one hT hT2; subst this; have := rest_one hr hr2; subst this; contradiction
    | sum _ hT2 hd2 hq2 hh2 hr2 hl2 hs2 => have := tells_one hT hT2; subst this; exact ⟨rfl, hh.trans hh2.symm, rfl, rfl⟩
/-- Behind an error all stays. -/
theorem zt_bad {lim : Int} {ys b : List UInt8} {s : ZS} (h : ZT lim ys s) (he : s.e ≠ 0) : ZT lim (ys ++ b) s := by
  cases h with
  | short h1 => exact absurd rfl he
  | form h1 => exact .form h1
  | @on a c b1 Q h1 hT hd =>
    cases Q with
    | ok s => exact absurd rfl he
    | bad hist e => exact .on h1 (tells_bad hT) hd
  | foot => exact absurd rfl he
  | good => exact absurd rfl he
  | @sum a c b1 rs Q q h1 hT hd hq hh hr hl hs =>
    obtain ⟨Q2, k1, k2, k3, k4⟩ := tells_behind (b := b) hT hd hr
    have ht : (rs ++ b).take 4 = rs.take 4 := List.take_append_of_le_length hl
    have h9 := ZT.sum (b := b1 ++ b) h1 k1 k2 hq (hh.trans k3.symm) k4 (by rw [List.length_append]; omega) (by rw [ht, k3]; exact hs)
    rw [ht] at h9
    exact h9
/-- More bytes behind the packed ones. -/
theorem zt_end {lim : Int} {ys b : List UInt8} {s : ZS} (h : ZT lim ys s) (he : s.e = 0) (hq : s.q.done = true) : ZT lim (ys ++ b) (s.fin b) := by
  cases h with
  | short h1 => cases hq
  | form h1 => cases hq
  | on h1 hT hd => rw [hd] at hq; cases hq
  | sum => cases he
  | @foot a c b1 rs Q q h1 hT hd _ hh hr hl =>
    obtain ⟨Q2, k1, k2, k3, k4⟩ := tells_behind (b := b) hT hd hr
    rw [fin_eq, List.nil_append]
    by_cases h4 : (rs ++ b).length < 4
    · rw [if_pos h4]
      exact .foot h1 k1 k2 hq (hh.trans k3.symm) k4 h4
    · rw [if_neg h4]
      by_cases hs : beV ((rs ++ b).take 4) = adV (adl (1, 0) q.hist)
      · rw [if_pos hs]
        exact .good h1 k1 k2 hq (hh.trans k3.symm) k4 (by omega) (by rw [k3, ← hh]; exact hs)
      · rw [if_neg hs]
        exact .sum h1 k1 k2 hq (hh.trans k3.symm) k4 (by omega) (by rw [k3, ← hh]; exact hs)
  | @good a c b1 rs Q q h1 hT hd _ hh hr hl hs =>
    obtain ⟨Q2, k1, k2, k3, k4⟩ := tells_behind (b := b) hT hd hr
    have h4 : (rs.take 4).length = 4 := by rw [List.length_take]; omega
    have ht : (rs ++ b).take 4 = rs.take 4 := List.take_append_of_le_length hl
    have hdr : (rs ++ b).drop 4 = rs.drop 4 ++ b := List.drop_append_of_le_length hl
    have e1 : (rs.take 4 ++ b).take 4 = rs.take 4 := List.take_left' h4
    have e2 : (rs.take 4 ++ b).drop 4 = b := List.drop_left' h4
    rw [fin_eq]
    rw [if_neg (by rw [List.length_append]; omega), e1, e2, if_pos (by rw [hh]; exact hs)]
    have h9 := ZT.good (b := b1 ++ b) h1 k1 k2 hq (hh.trans k3.symm) k4 (by rw [List.length_append]; omega) (by rw [ht, k3]; exact hs)
    rw [ht, hdr] at h9
    exact h9
/-- The packed bytes have ended. -/
theorem zt_ends {lim : Int} {a c : UInt8} {b rs : List UInt8} {Q : DRes} (h1 : HeadOk a c) (hT : Tells lim b Q) (hd : Q.done = true) (hr : RestOk Q rs) : ZT lim (a :: c :: b) (ZS.fin ⟨Q, [a, c], [], [], false, 0⟩ rs) := by
  rw [fin_eq, List.nil_append, List.nil_append]
  by_cases h4 : rs.length < 4
  · rw [if_pos h4]
    exact .foot h1 hT hd hd rfl hr h4
  · rw [if_neg h4]
    by_cases hs : beV (rs.take 4) = adV (adl (1, 0) Q.hist)
    · rw [if_pos hs]
      exact .good h1 hT hd hd rfl hr (by omega) hs
    · rw [if_neg hs]
      exact .sum h1 hT hd hd rfl hr (by omega) hs
theorem zt_foot {lim : Int} {ys : List UInt8} {s : ZS} (h : ZT lim ys s) : s.foot.length ≤ 4 ∧ s.rest.length ≤ ys.length := by
  cases h with
  | short | form | on => exact ⟨by simp, by simp⟩
  | foot _ _ _ _ _ _ hl => exact ⟨by simp only; omega, by simp⟩
  | @good a c b1 rs Q q h1 hT hd _ hh hr hl hs => have := rest_len hT hr; exact ⟨by simp only [List.length_take]; omega, by simp only [List.length_drop, List.length_cons]; omega⟩
  | sum => exact ⟨by simp only [List.length_take]; omega, by simp⟩

set_option maxRecDepth 100000 in
set_option maxHeartbeats 1000000 in
theorem zDone_any {w : World} {z : Nat} {lim : Int} {s : ZS} {Rs : List Res} (hS : Sat w (zd z lim s :: Rs)) :
    Calls Try.prog 26 #[.pointer (some ⟨z, 0, none⟩)] w fun e' w' => e' = .returned (.bool s.done) ∧ w' = w := by
  obtain ⟨d, hv1, fv1, rv1, hL⟩ := zd_open hS
  obtain ⟨c0, c1, c2, c3, c4, c5, c6⟩ := zd_cells hL
  clear hS hL c0 c1 c2 c3 c5 c6
  go_enter Try.func26, Try.ntmps26
  go_wp2
  go_ret
  exact ⟨rfl, rfl⟩
set_option maxRecDepth 100000 in
set_option maxHeartbeats 1000000 in
theorem zTotal_any {w : World} {z : Nat} {lim : Int} {s : ZS} {Rs : List Res} (hS : Sat w (zd z lim s :: Rs)) :
    Calls Try.prog 28 #[.pointer (some ⟨z, 0, none⟩)] w fun e' w' => e' = .returned (.int .i64 (s.q.hist.length : Nat)) ∧ w' = w := by
  obtain ⟨d, hv1, fv1, rv1, hL⟩ := zd_open hS
  obtain ⟨c0, c1, c2, c3, c4, c5, c6⟩ := zd_cells hL
  have Ht := Lib.hid (total_all (Sat.front hL 1 _ rfl))
  clear hS hL c1 c2 c3 c4 c5 c6
  go_enter Try.func28, Try.ntmps28
  go_wp2_with (go_at_call 63; refine Ht.out.mono ?_; rintro e w2 ⟨rfl, rfl⟩)
  go_ret
  exact ⟨rfl, rfl⟩
set_option maxRecDepth 100000 in
set_option maxHeartbeats 1000000 in
theorem zRest_any {w : World} {z : Nat} {lim : Int} {s : ZS} {Rs : List Res} (hS : Sat w (zd z lim s :: Rs)) (hr : s.rest.length ≤ 1048576) :
    Calls Try.prog 27 #[.pointer (some ⟨z, 0, none⟩)] w fun e' w' => ∃ v, e' = .returned v ∧ Sat w' (sl 5 1 s.rest.length v (s.rest.map byteV) :: zd z lim s :: Rs) := by
  obtain ⟨d, hv1, fv1, rv1, hL⟩ := zd_open hS
  obtain ⟨F, ao, cap, hrv, k1, k2, -, -⟩ := hL.at_ 4 _ rfl
  subst hrv
  have hS3 := hL.alloc_drop (.cells #[] 5)
  obtain ⟨c0, c1, c2, c3, c4, c5, c6⟩ := zd_cells hS3
  have Hsrc := Lib.hid (SlR.src (P := Try.prog) (Sat.front hS3 4 _ rfl).sl_read Try.underlying22 (byteV_one s.rest))
  have HS3 := Lib.hid hS3
  obtain ⟨i0, hi, hz0, hz1, hz2⟩ := info_parts Try.infoU8
  clear hS hL hS3 c0 c1 c2 c3 c4 c6
  go_enter Try.func27, Try.ntmps27
  go_wp2_with (at_builtin; refine wpList_append_sat _ rfl _ _ 22 22 rfl 5 i0 (.int .u8 0) 1 1 Try.underlying22 hi hz0 hz1 hz2 rfl (by decide) 0 _ _ _ rfl (HS3.out.sl_nil 5 1 (some _)) s.rest.length _ _ rfl Hsrc.out ?_ ?_ ?_)
  · unfold maxLen; omega
  · omega
  · intro v' w' hS'
    have H := Lib.hid hS'
    clear hS'
    go_wp2
    go_ret
    refine ⟨v', rfl, ?_⟩
    have h := H.out
    exact Sat.swap (zd_shut (Rs := _ :: Rs) (Sat.perm (As := [_, _, _, _, _, _]) h [1, 2, 3, 4, 5, 0] [_, _, _, _, _, _] rfl (by simp)))
set_option maxRecDepth 100000 in
set_option maxHeartbeats 1000000 in
theorem zNew_any {w : World} {Rs : List Res} (hS : Sat w Rs) (lim : Int) :
    Calls Try.prog 60 #[.int .i64 lim] w fun e' w' => ∃ z, e' = .returned (.pointer (some ⟨z, 0, none⟩)) ∧ Sat w' (zd z lim ⟨.ok ds0, [], [], [], false, 0⟩ :: Rs) := by
  have Hn := Lib.hid (new_idle hS lim)
  have hA : ∀ w2 : World, Calls Try.prog 62 #[.slice none 0 0] w2 fun e w' => e = .returned (.int .u32 1) ∧ ∃ n, w' = w2.drewN n := by
    intro w2
    exact adOf_any (bs := []) ⟨none, 0, rfl, Nat.le_refl _, by decide, rfl, fun h => absurd h (by decide)⟩ (by decide)
  have HA := Lib.hid hA
  clear hS hA
  go_enter Try.func60, Try.ntmps60
  go_wp2_with (first
    | (go_at_call 18; refine Hn.out.mono ?_; rintro e w2 ⟨d, rfl, hS2⟩; have HS2 := Lib.hid hS2; clear hS2)
    | (go_at_call 62; refine (HA.out _).mono ?_; rintro e w3 ⟨rfl, n, rfl⟩))
  go_ret
  refine ⟨_, rfl, ?_⟩
  have h := (((HS2.out.drewN n).sl_nil 5 1 none).sl_nil 5 1 none).sl_nil 5 1 none
  exact zd_shut (d := d) (hv := .slice none 0 0) (fv := .slice none 0 0) (rv := .slice none 0 0) (Sat.perm (As := [_, _, _, _, _]) (h.alloc _) [0, 4, 1, 2, 3] [_, _, _, _, _] rfl (by simp))

end Go.Proofs.Ytdpocnkeokplpaa
