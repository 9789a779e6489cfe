/- The law InflateBehind: its walk. -/
import Derived.Test.YtobkmkdnkdbgeaaDLawZ
import Derived.Test.YtobkmkdnkdbgeaaQo
namespace Go.Proofs.Ytobkmkdnkdbgeaa
open Go.RowKit Go.Hal
set_option linter.unusedVariables false
set_option linter.unusedSimpArgs false

/-- Behind the end, or behind an error. -/
def OverD : DRes → Prop
  | .ok s => s.st = 12
  | .bad _ _ => True
/-- What comes behind the end. -/
def DRes.behind (zs : List UInt8) : DRes → DRes
  | .ok s => .ok (s.more (bitsOf zs))
  | .bad h e => .bad h e
theorem runs_end {lim : Int} {s : DS} {r : DRes} (h : s.st = 12) (hr : Runs lim s r) : r = .ok s := by
  have hs : dstep lim s = .stop := by unfold dstep; rw [h]; rfl
  exact runs_one hr (.stop hs)
theorem bad_err {d : Nat} {lim : Int} {hist : List UInt8} {e : Nat} {w : World} {Rs : List Res} (hS : Sat w (decRes d lim (.bad hist e) :: Rs)) : e ≠ 0 := by
  obtain ⟨_, _, _, _, h1, -⟩ := dead_open (show Sat w (dead d lim hist e :: Rs) from hS)
  exact h1.1

theorem push_over {w : World} {d : Nat} {lim : Int} {r : DRes} {Rs : List Res} (hlim : lim ≤ 65535) (ho : OverD r) (hb : ∀ s, r = .ok s → s.bits.length ≤ 16000) (hS : Sat w (decRes d lim r :: Rs)) {v : Value} {zs : List UInt8} (hv : ∀ w', Sat w' Rs → SlR w' 5 1 zs.length v (zs.map byteV)) (hz : zs.length ≤ 2000) :
    Calls Try.prog 37 #[.pointer (some ⟨d, 0, none⟩), v] w fun e' w' => ∃ ao cap, e' = .returned (.tuple #[.slice ao 0 cap, .int .i64 (r.err : Nat)]) ∧ Sat w' (decRes d lim (r.behind zs) :: Rs) := by
  cases r with
  | ok s =>
    refine (push_idle hlim hS hv (by have := hb s rfl; omega)).mono ?_
    rintro e' w' ⟨q, ov, h1, rfl, h2⟩
    have h3 := runs_end (show (s.more (bitsOf zs)).st = 12 from ho) h1
    subst h3
    have h4 : (DRes.ok (s.more (bitsOf zs))).hist.drop s.hist.length = [] := List.drop_length ..
    rw [h4] at h2
    obtain ⟨F, ao, cap, rfl, -, -, -, -⟩ := h2.at_ 0 _ rfl
    exact ⟨ao, cap, rfl, h2.tail⟩
  | bad hist e =>
    obtain ⟨ao, cap, rfl, -, -, -, -⟩ := hv w hS.tail
    refine (push_dead (show Sat w (dead d lim hist e :: Rs) from hS) ao _ cap).mono ?_
    rintro e' w' ⟨rfl, h⟩
    exact ⟨none, 0, rfl, h⟩
/-- append behind a guard that says yes. -/
theorem wpList_append_sat_g {P : Program} (w : World) {ops : Array Oper} {rest : List Oper} {o : Oper} {a : Act} {Q : Exit → Act → World → Prop}
    (hg : Region.wanted o (yielded ops a.tmps) = true) (s x : Operand) (t tx : TypeId) (hop : o.op = Op.call { callee := Callee.builtin Builtin.append, args := #[s, x], argTypes := #[t, tx] })
    (e : TypeId) (i : TypeInfo) (z : Value) (size bytes : Nat) (h1 : P.underlying t = some (.slice e)) (h2 : P.info? e = some i) (h3 : i.zero = some z) (h4 : i.size = size) (h5 : i.bytes = bytes) (h6 : z.cells.size = size) (h7 : 0 < size)
    (n : Nat) (xs : List Value) (Rs : List Res) (v : Value) (hs : a.eval s = v) (hS : Sat w (sl e size n v xs :: Rs)) (m : Nat) (news : List Value) (vx : Value) (hx : a.eval x = vx) (hsrc : Src P size tx vx m news w)
    (b1 : n + m ≤ maxLen) (b2 : (n + m) * bytes ≤ 140737488355328)
    (hK : ∀ v' w', Sat w' (sl e size (n + m) v' (xs ++ news) :: Rs) → wpList P ops Q rest (a.put o.dst v') w') :
    wpList P ops Q (o :: rest) a w :=
  BigFrame.wpList_want hg fun K hK' => wp_append_sat (P := P) w s x t tx hop e i z size bytes h1 h2 h3 h4 h5 h6 h7 n xs Rs v hs hS m news vx hx hsrc b1 b2 fun v' w' h => hK' _ _ (hK v' w' h)

theorem rest_behind {r : DRes} {a b zs : List UInt8} (ho : OverD r) (h0 : r.err = 0) (h : RestOk r a) (h2 : RestOk (r.behind zs) b) (hne : ∀ hist e, r = .bad hist e → e ≠ 0) : b = a ++ zs := by
  cases r with
  | ok s =>
    have h : if s.st = 12 then bitsOf a = s.bits else a = [] := h
    have h2 : if s.st = 12 then bitsOf b = s.bits ++ bitsOf zs else b = [] := h2
    have hs : s.st = 12 := ho
    rw [if_pos hs] at h h2
    rw [← h, ← bitsOf_append] at h2
    exact bitsOf_inj _ _ h2
  | bad hist e => exact absurd h0 (hne hist e rfl)

set_option maxRecDepth 100000 in
set_option maxHeartbeats 4000000 in
theorem inflateBehind_true {w : World} {Rs : List Res} (hS : Sat w Rs) (u : Value) (ys : List UInt8) (hu : ∀ w', Sat w' Rs → SlR w' 5 1 ys.length u (ys.map byteV)) (v : Value) (zs : List UInt8) (hv : ∀ w', Sat w' Rs → SlR w' 5 1 zs.length v (zs.map byteV)) :
    Calls Try.prog 13 #[u, v] w fun e w' => e = .returned (.bool true) ∧ Sat w' Rs := by
  have hfix := fixed6_true hS
  obtain ⟨ao, cap, rfl, -, -, -, -⟩ := hu w hS
  obtain ⟨bo, bap, rfl, -, -, -, -⟩ := hv w hS
  have Hu := Lib.hid hu
  have Hv := Lib.hid hv
  clear hS hu hv
  by_cases hbig : 2000 < ys.length
  · have hd : decide (2000 < ys.length) = true := decide_eq_true hbig
    go_enter Try.func13, Try.ntmps13
    go_wp2_with (go_at_call 32; refine hfix.mono ?_; rintro e w1 ⟨rfl, hS1⟩)
    go_ret
    exact ⟨rfl, hS1⟩
  by_cases hbig2 : 2000 < zs.length
  · have hd : decide (2000 < ys.length) = false := decide_eq_false hbig
    have hd2 : decide (2000 < zs.length) = true := decide_eq_true hbig2
    go_enter Try.func13, Try.ntmps13
    go_wp2_with (go_at_call 32; refine hfix.mono ?_; rintro e w1 ⟨rfl, hS1⟩)
    go_ret
    exact ⟨rfl, hS1⟩
  have hd : decide (2000 < ys.length) = false := decide_eq_false hbig
  have hd2 : decide (2000 < zs.length) = false := decide_eq_false hbig2
  have Hyl : Hid (ys.length ≤ 2000) := by unfold Hid; omega
  have Hzl : Hid (zs.length ≤ 2000) := by unfold Hid; omega
  have hall0 : ∀ w1, Sat w1 Rs → Calls Try.prog 33 #[.slice ao ys.length cap, .int .i64 0, .int .i64 5000] w1 (AllP 5000 ys Rs) := by
    intro w1 h1; exact all_0 (by omega) h1 Hu.out (by omega)
  have Hall0 := Lib.hid hall0
  clear hall0 Hu
  go_enter Try.func13, Try.ntmps13
  go_wp2_with (first
    | (go_at_call 32; refine hfix.mono ?_; rintro e w1 ⟨rfl, hS1⟩; have H0 := Lib.hid (Hall0.out _ hS1); clear Hall0 hS1 hfix)
    | (go_at_call 33; refine H0.out.mono ?_; rintro e w2 ⟨r, ov, d, hT, rfl, hS2⟩; obtain ⟨_, oo, oap, rfl, -, -, -, -⟩ := hS2.at_ 0 _ rfl; have HT := Lib.hid hT; have HS2 := Lib.hid (Sat.swap hS2); have Hd2 := Lib.hid (done_all HS2.out); clear H0 hT hS2; rcases Nat.eq_zero_or_pos r.err with he0 | he0))
  · cases hdn : r.done
    · rw [hdn] at Hd2
      go_wp2_with (go_at_call 35; refine Hd2.out.mono ?_; rintro e w3 ⟨rfl, rfl⟩; clear Hd2)
      go_ret
      exact ⟨rfl, HS2.out.tail.tail⟩
    · rw [hdn] at Hd2
      have hov : OverD r := by
        cases r with
        | ok s => exact beq_iff_eq.1 hdn
        | bad hist e => cases hdn
      have Hov := Lib.hid hov
      have hb : ∀ s, r = .ok s → s.bits.length ≤ 16000 := by
        intro s hs; subst hs; have h1 := tells_bits HT.out; have := Hyl.out; omega
      have Hb := Lib.hid hb
      have Hdn := Lib.hid hdn
      have Hne : Hid (∀ hist e, r = .bad hist e → e ≠ 0) := by
        intro hist e hr; subst hr; exact bad_err HS2.out
      obtain ⟨i0, hi, hz0, hz1, hz2⟩ := info_parts Try.infoU8
      clear hov hb hdn
      go_wp2_with (first
        | (go_at_call 35; refine Hd2.out.mono ?_; rintro e w3 ⟨rfl, rfl⟩; have HrA := Lib.hid (rest_all HS2.out); clear Hd2 HS2)
        | (go_at_call 40; refine HrA.out.mono ?_; rintro e w6 ⟨v1, rs1, rfl, hr1, hS6⟩; obtain ⟨_, ro1, rap1, rfl, -, -, -, -⟩ := hS6.at_ 0 _ rfl; have Hr1 := Lib.hid hr1; have Hp := Lib.hid (push_over (by omega) Hov.out Hb.out hS6.swap (fun w' h => Hv.out w' h.tail.tail) Hzl.out); have HrlB : Hid (rs1.length ≤ 2000) := (by cases r with | ok s => (have h1 : (if s.st = 12 then bitsOf rs1 = s.bits else rs1 = []) := hr1; rw [if_pos (show s.st = 12 from Hov.out)] at h1; have h2 := Hb.out s rfl; rw [← h1, bitsOf_length] at h2; unfold Hid; omega) | bad hist e => (have h1 : rs1 = [] := hr1; subst h1; unfold Hid; simp)); clear HrA hr1 hS6)
        | (go_at_call 37; refine Hp.out.mono ?_; rintro e w7 ⟨xo, xap, rfl, hS7⟩; have hhist : (r.behind zs).hist = r.hist := (by cases r <;> rfl); have hdone : (r.behind zs).done = r.done := (by cases r <;> rfl); have HtA := total_all hS7; rw [hhist] at HtA; have HtA := Lib.hid HtA; have HdB := done_all hS7; rw [hdone, Hdn.out] at HdB; have HdB := Lib.hid HdB; have HrB := Lib.hid (rest_all hS7); clear Hp hS7 hhist hdone)
        | (go_at_call 42; refine HtA.out.mono ?_; rintro e w9 ⟨rfl, rfl⟩; clear HtA)
        | (go_at_call 35; refine HdB.out.mono ?_; rintro e w9 ⟨rfl, rfl⟩; clear HdB)
        | (go_at_call 40; refine HrB.out.mono ?_; rintro e w6 ⟨v2, rs2, rfl, hr2, hS8⟩; obtain ⟨_, ro2, rap2, rfl, -, -, -, -⟩ := hS8.at_ 0 _ rfl; have Hrs : Hid (rs2 = rs1 ++ zs) := rest_behind Hov.out he0 Hr1.out hr2 Hne.out; have hS9 := Sat.perm (As := [_, _, _, _]) hS8 [2, 0, 1, 3] [_, _, _, _] rfl (by simp); have HS9 := Lib.hid hS9; have Hsrc := Lib.hid (SlR.src (P := Try.prog) (Hv.out _ hS9.tail.tail.tail.tail) Try.underlying43 (byteV_one zs)); clear HrB hr2 hS8 hS9 Hr1)
        | (at_builtin; go_loud (refine wpList_append_sat_g _ (by rfl) _ _ 43 43 rfl 5 i0 (.int .u8 0) 1 1 Try.underlying43 hi hz0 hz1 hz2 rfl (by decide) rs1.length _ _ _ rfl HS9.out zs.length _ _ rfl Hsrc.out (by have := HrlB.out; have := Hzl.out; unfold maxLen; omega) (by have := HrlB.out; have := Hzl.out; omega) ?_); intro v9 w10 hS10; obtain ⟨_, ro9, rap9, rfl, -, -, -, -⟩ := hS10.at_ 0 _ rfl; have HsA : Hid (Calls Try.prog 34 #[.slice ro2 rs2.length rap2, .slice ro9 (rs1.length + zs.length) rap9] w10 fun e' w' => e' = .returned (.bool true) ∧ w' = w10) := (by refine (same_d (xs := rs2) (ys := rs1 ++ zs) (Sat.front hS10 1 _ rfl).sl_read (by rw [List.length_append, List.map_append]; exact hS10.sl_read)).mono ?_; rintro e w11 ⟨rfl, rfl⟩; rw [Hrs.out, beq_self_eq_true]; exact ⟨rfl, rfl⟩); have HS10 := Lib.hid hS10; clear hS10 Hsrc HS9)
        | (go_at_call 34; refine HsA.out.mono ?_; rintro e w8 ⟨rfl, rfl⟩; clear HsA))
      go_ret
      exact ⟨rfl, Sat.perm (As := [_, _, _, _]) (Bs := []) HS10.out [] rfl (by simp)⟩
  · have heI : ((r.err : Int) == 0) = false := beq_eq_false_iff_ne.2 (by omega)
    have heJ : ((r.err : Int) != 0) = true := bne_iff_ne.2 (by omega)
    have hne : ¬ r.err = 0 := by omega
    have hov : OverD r := by
      cases r with
      | ok s => exact absurd rfl hne
      | bad hist e => trivial
    have hdn : r.done = false := by
      cases r with
      | ok s => exact absurd rfl hne
      | bad hist e => rfl
    have Hov := Lib.hid hov
    have Hdn := Lib.hid hdn
    have hb : ∀ s, r = .ok s → s.bits.length ≤ 16000 := by
      intro s hs; subst hs; exact absurd rfl hne
    have Hb := Lib.hid hb
    have Hne := Lib.hid hne
    have HrA := Lib.hid (rest_all HS2.out)
    clear hov hdn hb Hd2 HS2
    go_wp2_with (first
      | (go_at_call 40; refine HrA.out.mono ?_; rintro e w6 ⟨v1, rs1, rfl, hr1, hS6⟩; obtain ⟨_, ro1, rap1, rfl, -, -, -, -⟩ := hS6.at_ 0 _ rfl; have Hp := Lib.hid (push_over (by omega) Hov.out Hb.out hS6.swap (fun w' h => Hv.out w' h.tail.tail) Hzl.out); clear HrA hr1 hS6)
      | (go_at_call 37; refine Hp.out.mono ?_; rintro e w7 ⟨xo, xap, rfl, hS7⟩; have hhist : (r.behind zs).hist = r.hist := (by cases r <;> rfl); have hdone : (r.behind zs).done = r.done := (by cases r <;> rfl); have HtA := total_all hS7; rw [hhist] at HtA; have HtA := Lib.hid HtA; have HdB := done_all hS7; rw [hdone, Hdn.out] at HdB; have HdB := Lib.hid HdB; have HrB := Lib.hid (rest_all hS7); clear Hp hS7 hhist hdone)
      | (go_at_call 42; refine HtA.out.mono ?_; rintro e w9 ⟨rfl, rfl⟩; clear HtA)
      | (go_at_call 35; refine HdB.out.mono ?_; rintro e w9 ⟨rfl, rfl⟩; clear HdB)
      | (go_at_call 40; refine HrB.out.mono ?_; rintro e w6 ⟨v2, rs2, rfl, hr2, hS8⟩; have hrs2 : rs2 = [] := (by cases r with | ok s => exact absurd rfl Hne.out | bad hist e => exact hr2); subst hrs2; obtain ⟨_, ro2, rap2, rfl, -, -, -, -⟩ := hS8.at_ 0 _ rfl; have HS8 := Lib.hid hS8; clear HrB hr2 hS8))
    go_ret
    exact ⟨rfl, Sat.perm (As := [_, _, _, _]) (Bs := []) HS8.out [] rfl (by simp)⟩

end Go.Proofs.Ytobkmkdnkdbgeaa
