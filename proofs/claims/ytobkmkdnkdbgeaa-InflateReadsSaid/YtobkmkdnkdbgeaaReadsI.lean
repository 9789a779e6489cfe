/- The law InflateReads: its walk. -/
import Derived.Test.YtobkmkdnkdbgeaaRunS
import Derived.Test.YtobkmkdnkdbgeaaDLawZ
import Derived.Test.YtobkmkdnkdbgeaaQo
import Derived.Test.YtobkmkdnkdbgeaaBehind
import Derived.Test.YtobkmkdnkdbgeaaHz
import Derived.Deep.CutRange
namespace Go.Proofs.Ytobkmkdnkdbgeaa
open Go.RowKit Go.Hal
set_option linter.unusedVariables false
set_option linter.unusedSimpArgs false

/-- The decoder and the document end alike. -/
theorem final_of {lim : Int} {ys : List UInt8} {q : DRes} {rr : RunS} (h : Tells lim ys q) (hf : FinalR lim (ds0.more (bitsOf ys)) rr) :
    rr.out = q.hist ∧ rr.done = q.done ∧ clearE rr.e = q.err ∧ (rr.done = true → ∀ rs, RestOk q rs → bitsOf rs = rr.bits.drop (rr.bits.length % 8)) := by
  rcases hf with ⟨h1, h2, s, h3, h4, h5, h6⟩ | ⟨h1, h2, s, h3, h4, h5⟩ | ⟨h1, h2, h3, h4⟩
  · have hq := runs_one h h3
    subst hq
    refine ⟨h5.symm, ?_, ?_, fun _ rs hr => ?_⟩
    · rw [h1]
      exact (beq_iff_eq.2 h4 : (s.st == 12) = true).symm
    · rw [h2]; rfl
    · have hr : if s.st = 12 then bitsOf rs = s.bits else rs = [] := hr
      rw [if_pos h4] at hr
      rw [hr, h6]
  · have hq := runs_one h h3
    subst hq
    refine ⟨h5.symm, ?_, ?_, fun hd => ?_⟩
    · rw [h1]
      exact (beq_eq_false_iff_ne.2 h4 : (s.st == 12) = false).symm
    · rw [h2]; rfl
    · rw [h1] at hd; cases hd
  · have hq := runs_one h h4
    subst hq
    refine ⟨rfl, h1, ?_, fun hd => ?_⟩
    · unfold clearE
      rw [if_neg h3]; rfl
    · rw [h1] at hd; cases hd

/-- What stands behind is no longer than what was told. -/
theorem rest_len {lim : Int} {ys rs : List UInt8} {q : DRes} (h : Tells lim ys q) (hr : RestOk q rs) : rs.length ≤ ys.length := by
  cases q with
  | ok s =>
    have hr : if s.st = 12 then bitsOf rs = s.bits else rs = [] := hr
    by_cases hs : s.st = 12
    · rw [if_pos hs] at hr
      have h1 := tells_bits h
      rw [← hr, bitsOf_length] at h1
      omega
    · rw [if_neg hs] at hr
      subst hr; exact Nat.zero_le _
  | bad hist e =>
    have hr : rs = [] := hr
    subst hr; exact Nat.zero_le _

/-- Nothing stands behind what has not ended. -/
theorem rest_nil {q : DRes} {rs : List UInt8} (hr : RestOk q rs) (h : q.done = false) : rs = [] := by
  cases q with
  | ok s =>
    have hr : if s.st = 12 then bitsOf rs = s.bits else rs = [] := hr
    by_cases hs : s.st = 12
    · have h : (s.st == 12) = false := h
      rw [hs] at h; cases h
    · rw [if_neg hs] at hr; exact hr
  | bad hist e => exact hr

/-- A push onto what was told of a bytes. -/
theorem push_next {w : World} {d : Nat} {lim : Int} {q : DRes} {a ys : List UInt8} {Rs : List Res} (hlim : lim ≤ 65535) (ha : Tells lim a q) (hal : a.length ≤ 10000) (hS : Sat w (decRes d lim q :: Rs)) {v : Value} (hv : ∀ w', Sat w' Rs → SlR w' 5 1 ys.length v (ys.map byteV)) (hy : ys.length ≤ 10000) :
    Calls Try.prog 37 #[.pointer (some ⟨d, 0, none⟩), v] w fun e' w' => ∃ q2 nw ov, Tells lim (a ++ ys) q2 ∧ q2.hist = q.hist ++ nw ∧ (q.err ≠ 0 → nw = [] ∧ q2 = q) ∧ e' = .returned (.tuple #[ov, .int .i64 (q2.err : Nat)]) ∧
      Sat w' (sl 5 1 nw.length ov (nw.map byteV) :: decRes d lim q2 :: Rs) := by
  cases q with
  | ok s =>
    refine (push_idle hlim hS hv (by have := tells_bits ha; omega)).mono ?_
    rintro e' w' ⟨r, ov, h1, rfl, h2⟩
    have h3 : (s.more (bitsOf ys)).hist <+: r.hist := runs_pre h1
    obtain ⟨nw, hnw⟩ := h3
    replace hnw : s.hist ++ nw = r.hist := hnw
    refine ⟨r, nw, ov, tells_app ha h1, hnw.symm, fun h => absurd rfl h, rfl, ?_⟩
    rw [show r.hist.drop s.hist.length = nw by rw [← hnw]; exact List.drop_left ..] at h2
    exact h2
  | bad hist e =>
    obtain ⟨ao, cap, rfl, -, -, -, -⟩ := hv w hS.tail
    refine (push_dead (show Sat w (dead d lim hist e :: Rs) from hS) ao _ cap).mono ?_
    rintro e' w' ⟨rfl, h⟩
    exact ⟨.bad hist e, [], _, tells_bad ha, (List.append_nil _).symm, fun _ => ⟨rfl, rfl⟩, rfl, Sat.sl_nil h 5 1 none⟩

theorem incr_byte (c : UInt8) : ∃ c2 : UInt8, IntKind.u8.wrap ((c.toNat : Int) + 1) = (c2.toNat : Int) := by
  refine ⟨c + 1, ?_⟩
  have h := c.toNat_lt
  have h2 : (c + 1).toNat = (c.toNat + 1) % 256 := by rw [UInt8.toNat_add]; rfl
  rw [h2]
  by_cases hc : c.toNat = 255
  · rw [hc]; decide
  · rw [Nat.mod_eq_of_lt (by omega)]
    have : ∀ n : Nat, n < 255 → IntKind.u8.wrap ((n : Int) + 1) = ((n + 1 : Nat) : Int) := by decide +kernel
    exact this _ (by omega)

set_option maxRecDepth 100000 in
set_option maxHeartbeats 4000000 in
theorem inflateReads_true {w : World} {Rs : List Res} (hS : Sat w Rs) (u : Value) (ys : List UInt8) (hu : ∀ w', Sat w' Rs → SlR w' 5 1 ys.length u (ys.map byteV)) (v : Value) (zs : List UInt8) (hv : ∀ w', Sat w' Rs → SlR w' 5 1 zs.length v (zs.map byteV)) (lim0 : Int) :
    Calls Try.prog 11 #[u, v, .int .i64 lim0] w fun e w' => e = .returned (.bool true) ∧ Sat w' Rs := by
  have hfix := fixed6_true hS
  obtain ⟨ao, cap, rfl, hcap, hcm, -, -⟩ := hu w hS
  obtain ⟨bo, bap, rfl, hbap, hbm, -, -⟩ := hv w hS
  have Hu := Lib.hid hu
  have Hv := Lib.hid hv
  clear hS hu hv hcm hbm
  by_cases hbig : 400 < ys.length
  · have hd : decide ((400 : Int) < (ys.length : Int)) = true := decide_eq_true (by omega)
    go_enter Try.func11, Try.ntmps11
    go_wp2_with (go_at_call 32; refine hfix.mono ?_; rintro e w1 ⟨rfl, hS1⟩)
    go_ret
    exact ⟨rfl, hS1⟩
  have hd : decide ((400 : Int) < (ys.length : Int)) = false := decide_eq_false (by omega)
  by_cases hbig2 : 6 < zs.length
  · have hd2 : decide ((6 : Int) < (zs.length : Int)) = true := decide_eq_true (by omega)
    go_enter Try.func11, Try.ntmps11
    go_wp2_with (go_at_call 32; refine hfix.mono ?_; rintro e w1 ⟨rfl, hS1⟩)
    go_ret
    exact ⟨rfl, hS1⟩
  have hd2 : decide ((6 : Int) < (zs.length : Int)) = false := decide_eq_false (by omega)
  have hyl : ys.length ≤ 400 := by omega
  have hzl : zs.length ≤ 6 := by omega
  obtain ⟨lim, Hlim⟩ : ∃ lim : Int, Hid ((20000 < lim0 → lim = 20000) ∧ (¬ 20000 < lim0 → lim = lim0)) := ⟨if 20000 < lim0 then 20000 else lim0, fun h => if_pos h, fun h => if_neg h⟩
  have hlim : lim ≤ 20000 := by
    by_cases h : 20000 < lim0
    · rw [Hlim.out.1 h]; omega
    · rw [Hlim.out.2 h]; omega
  clear hbig hbig2
    -- THE WALK
  go_enter Try.func11, Try.ntmps11
  go_upto_if 31 with (go_at_call 32; refine hfix.mono ?_; rintro e w1 ⟨rfl, hS1⟩; have HS1 := Lib.hid hS1; clear hS1 hfix)
  go_cut [7] from 19 (fun s7 wx => s7 = .int .i64 lim ∧ Hid (Sat wx Rs))
  case first =>
    by_cases hll : 20000 < lim0
    · have Hl := Lib.hid (Hlim.out.1 hll)
      go_wp2
      go_meet
      exact ⟨by rw [Hl.out], HS1.out⟩
    · have Hl := Lib.hid (Hlim.out.2 (by omega))
      go_wp2
      go_meet
      exact ⟨by rw [Hl.out], HS1.out⟩
  case rest =>
    obtain ⟨rfl, HS0⟩ := hcut
    have Hnew := Lib.hid (new_idle HS0.out lim)
    go_wp2_with (go_at_call 36; refine Hnew.out.mono ?_; rintro e w2 ⟨d, rfl, hS2⟩; clear Hnew)
    have HS2 : Hid (Sat w2 (decRes d lim (.ok ds0) :: Rs)) := hS2
    clear hS2 HS0
    obtain ⟨i0, hi, hz0, hz1, hz2⟩ := info_parts Try.infoU8
    go_loopw [9, 10, 11, 12] (fun tv av bv iv wr => ∃ (k n : Nat) (q : DRes) (bd : Bool), k ≤ zs.length + 1 ∧ n ≤ ys.length ∧ iv = .int .i64 k ∧ av = .int .i64 n ∧ tv = .int .i64 (q.hist.length : Nat) ∧ bv = .bool bd ∧ Hid (bd = decide (q.err ≠ 0)) ∧ Hid (Tells lim (ys.take n) q) ∧ Hid (Sat wr (decRes d lim q :: Rs))) (fun _ _ _ iv _ => zs.length + 1 - (intOf iv).toNat)
    case atStart => exact ⟨0, 0, .ok ds0, false, by omega, by omega, rfl, rfl, rfl, rfl, rfl, tells_nil lim, HS2.out⟩
    case round =>
      obtain ⟨k, n, q, bd, hk, hn, rfl, rfl, rfl, rfl, Hbd, HT, HS5⟩ := hrel
      clear HS2
      by_cases hkz : k ≤ zs.length
      rotate_left
      · have hkd : decide ((k : Int) ≤ (zs.length : Int)) = false := decide_eq_false (by omega)
        go_wp2
        go_ret
        exact ⟨rfl, HS5.out.tail⟩
      have hkd : decide ((k : Int) ≤ (zs.length : Int)) = true := decide_eq_true (by omega)
      obtain ⟨Mx, HMx⟩ : ∃ Mx, Hid (Mx = ys.length - n) := ⟨_, Lib.hid rfl⟩
      have hMxI : (ys.length : Int) - (n : Int) = (Mx : Int) := by rw [HMx.out]; omega
      have hql : q.hist.length ≤ 20000 := by have := tells_cap HT.out; omega
      -- what is pushed: M bytes
      have hcase : ∃ M : Nat, M ≤ Mx ∧ ((k = zs.length ∧ M = Mx) ∨ (k < zs.length ∧ ∃ c : UInt8, zs[k]? = some c ∧ min (Mx : Int) (c.toNat : Int) = (M : Int))) := by
        by_cases hkl : k < zs.length
        · by_cases hc : Mx ≤ zs[k].toNat
          · exact ⟨Mx, Nat.le_refl _, .inr ⟨hkl, zs[k], List.getElem?_eq_getElem hkl, by omega⟩⟩
          · exact ⟨zs[k].toNat, by omega, .inr ⟨hkl, zs[k], List.getElem?_eq_getElem hkl, by omega⟩⟩
        · exact ⟨Mx, Nat.le_refl _, .inl ⟨by omega, rfl⟩⟩
      obtain ⟨M, hM, hcs⟩ := hcase
      have hnM : n + M ≤ ys.length := by rw [HMx.out] at hM; omega
      have hnMc : n + M ≤ cap := by omega
      have hsrc : ∀ w', Sat w' Rs → ∀ x, x = .slice (if cap = n then ao else Option.map (fun x => x.add n) ao) M (cap - n) → SlR w' 5 1 M x (((ys.drop n).take M).map byteV) := by
        rintro w' h' x rfl
        have h1 := SlR.head (SlR.rest (Hu.out w' h') n hn) M (by omega)
        rw [← List.map_drop, ← List.map_take] at h1
        exact h1
      obtain ⟨pc, Hpc⟩ : ∃ pc, Hid (pc = (ys.drop n).take M) := ⟨_, Lib.hid rfl⟩
      have Hpl : Hid (pc.length = M) := by unfold Hid; rw [Hpc.out, List.length_take, List.length_drop]; omega
      rw [← Hpc.out] at hsrc
      have HsrA : Hid (∀ w', Sat w' Rs → ¬ cap = n → SlR w' 5 1 M (.slice (Option.map (fun x => x.add n) ao) M (cap - n)) (pc.map byteV)) := fun w' h' hc => hsrc w' h' _ (by rw [if_neg hc])
      have HsrB : Hid (∀ w', Sat w' Rs → cap = n → SlR w' 5 1 M (.slice ao M 0) (pc.map byteV)) := fun w' h' hc => hsrc w' h' _ (by rw [if_pos hc, hc, Nat.sub_self])
      have hA := ((HS5.out.alloc_drop (.cells #[] 5)).sl_nil 5 1 (some ⟨wr.heap.size, 0, none⟩))
      have HA := Lib.hid hA
      have Hpu : Hid (∀ w1 x, Sat w1 (sl 5 1 M x (pc.map byteV) :: decRes d lim q :: Rs) → Calls Try.prog 37 #[.pointer (some ⟨d, 0, none⟩), x] w1 fun e' w' => ∃ q2 nw ov, Tells lim (ys.take (n + M)) q2 ∧ q2.hist = q.hist ++ nw ∧ (q.err ≠ 0 → nw = [] ∧ q2 = q) ∧ e' = .returned (.tuple #[ov, .int .i64 (q2.err : Nat)]) ∧
          Sat w' (sl 5 1 nw.length ov (nw.map byteV) :: decRes d lim q2 :: sl 5 1 M x (pc.map byteV) :: Rs)) := by
        intro w1 x h
        have h2 := push_next (ys := pc) (v := x) (by omega) HT.out (by rw [List.length_take]; omega) h.swap (fun w' h' => by rw [Hpl.out]; exact h'.sl_read) (by rw [Hpl.out]; omega)
        have e1 : ys.take n ++ pc = ys.take (n + M) := by rw [Hpc.out, List.take_add]
        rw [e1] at h2
        exact h2
      obtain ⟨E, HE⟩ : ∃ E, Hid (E = n + M) := ⟨_, Lib.hid rfl⟩
      have hEI : (n : Int) + (M : Int) = (E : Int) := by rw [HE.out]; rfl
      have hEy : E ≤ ys.length := by rw [HE.out]; exact hnM
      have hEc : E ≤ cap := by rw [HE.out]; exact hnMc
      have hnE : n ≤ E := by rw [HE.out]; omega
      have hEn : E - n = M := by rw [HE.out]; omega
      rw [← HE.out] at Hpu
      clear hA hsrc hnM hnMc
      go_upto_if 47 with (fail)
      go_cut [13] from 34 to 162 (fun s13 wx => s13 = .int .i64 M ∧ wx = wr)
      case first =>
        rcases hcs with ⟨hke, hMe⟩ | ⟨hkl, c, hzc, hcm⟩
        · have hkd2 : decide ((k : Int) < (zs.length : Int)) = false := decide_eq_false (by omega)
          have hkd3 : decide (k < zs.length) = false := decide_eq_false (by omega)
          have HMe := Lib.hid hMe
          have hkge : zs.length ≤ k := by omega
          clear hMe hke
          go_wp2
          all_goals first
            | (exfalso; omega)
            | (go_meet
               exact ⟨by rw [HMe.out], rfl⟩)
        · have hkd2 : decide ((k : Int) < (zs.length : Int)) = true := decide_eq_true (by omega)
          have hkd3 : decide (k < zs.length) = true := decide_eq_true (by omega)
          obtain ⟨a9, c9, he9, -, -, -, hb9⟩ := Hv.out wr HS5.out.tail
          simp only [Value.slice.injEq, true_and] at he9
          obtain ⟨rfl, rfl⟩ := he9
          obtain ⟨b9, o9, rfl, -, hc9⟩ := hb9 (by omega)
          have hc10 : wr.cell? ⟨b9, o9 + k, none⟩ = some (.int .u8 c.toNat) := hc9 k _ (by rw [List.getElem?_map, hzc]; rfl)
          have hcb : c.toNat < 256 := c.toNat_lt
          obtain ⟨cn, Hcn⟩ : ∃ cn, Hid (cn = c.toNat) := ⟨_, Lib.hid rfl⟩
          rw [← Hcn.out] at hc10 hcm hcb
          clear hc9 hzc
          go_wp2
          all_goals first
            | (exfalso; omega)
            | (go_meet
               exact ⟨vi (by omega), rfl⟩)
      obtain ⟨rfl, rfl⟩ := hcut
      go_upto_region 17 with (fail)
      go_cut [14] from 34 to 162 (fun s14 wx => ∃ wo wap, s14 = .slice wo M wap ∧ Hid (Sat wx (sl 5 1 M (.slice wo M wap) (pc.map byteV) :: decRes d lim q :: Rs)))
      case first =>
        by_cases hcn : cap = n
        · have HsrX := Lib.hid (fun w' h' => HsrB.out w' h' hcn)
          subst hcn
          clear HsrA HsrB
          go_wp2_with (at_builtin; refine wpList_append_sat _ rfl _ _ 43 43 rfl 5 i0 (.int .u8 0) 1 1 Try.underlying43 hi hz0 hz1 hz2 rfl (by decide) 0 _ _ _ rfl HA.out M _ _ rfl (SlR.src (P := Try.prog) (HsrX.out _ HA.out.tail.tail) Try.underlying43 (byteV_one pc)) (by unfold maxLen; omega) (by omega) ?_; intro v9 w9 hS9; rw [Nat.zero_add, List.nil_append] at hS9; obtain ⟨_, wo, wap, hv9, -, -, -, -⟩ := hS9.at_ 0 _ rfl; subst hv9; have HS9 := Lib.hid hS9; clear hS9 HA Hpu HsrX)
          go_wp2
          go_meet
          exact ⟨_, _, rfl, HS9.out⟩
        · have HsrX := Lib.hid (fun w' h' => HsrA.out w' h' hcn)
          clear HsrA HsrB
          go_wp2_with (at_builtin; refine wpList_append_sat _ rfl _ _ 43 43 rfl 5 i0 (.int .u8 0) 1 1 Try.underlying43 hi hz0 hz1 hz2 rfl (by decide) 0 _ _ _ rfl HA.out M _ _ rfl (SlR.src (P := Try.prog) (HsrX.out _ HA.out.tail.tail) Try.underlying43 (byteV_one pc)) (by unfold maxLen; omega) (by omega) ?_; intro v9 w9 hS9; rw [Nat.zero_add, List.nil_append] at hS9; obtain ⟨_, wo, wap, hv9, -, -, -, -⟩ := hS9.at_ 0 _ rfl; subst hv9; have HS9 := Lib.hid hS9; clear hS9 HA Hpu HsrX)
          go_wp2
          go_meet
          exact ⟨_, _, rfl, HS9.out⟩
      obtain ⟨wo, wap, rfl, HS9⟩ := hcut
      clear HA HsrA HsrB HMx hMxI hM hcs
      have Hpp := Lib.hid (Hpu.out _ _ HS9.out)
      clear HS9 Hpu
      go_wp2_with (go_at_call 37; refine Hpp.out.mono ?_; rintro e' w10 ⟨q2, nw, ov, hT2, hnw, hbad, rfl, hS10⟩; obtain ⟨_, xo, xap, rfl, -, -, -, -⟩ := hS10.at_ 0 _ rfl; have HS10 := Lib.hid hS10; have HT2 := Lib.hid hT2; have Hnw := Lib.hid hnw; have Hbad := Lib.hid hbad; clear Hpp hS10 hT2 hnw hbad)
      go_loopw [74] (fun iv2 wz => ∃ (j : Nat) (xs : List Int), j ≤ M ∧ iv2 = .int .i64 j ∧ Hid (xs.length = M) ∧ Hid (Sat wz (sl 5 1 nw.length (.slice xo nw.length xap) (nw.map byteV) :: decRes d lim q2 :: sl 5 1 M (.slice wo M wap) (xs.map (Value.int .u8)) :: Rs))) (fun iv2 _ => M - (intOf iv2).toNat)
      case atStart => exact ⟨0, pc.map (fun c => (c.toNat : Int)), by omega, rfl, by unfold Hid; rw [List.length_map, Hpl.out], by rw [List.map_map]; exact HS10.out⟩
      case round =>
        obtain ⟨j, xs, hj, rfl, Hxl, HS11⟩ := hrel
        clear HS10
        by_cases hjM : j < M
        · have hjd : decide ((j : Int) < (M : Int)) = true := decide_eq_true (by omega)
          have hF := Sat.perm (As := [_, _, _]) HS11.out [2, 0, 1] [_, _, _] rfl (by simp)
          obtain ⟨ob, off, c9, heq, hMw, -, -, hcl, hfr⟩ := hF.sl_cells (by omega)
          simp only [Value.slice.injEq, true_and] at heq
          obtain ⟨rfl, rfl⟩ := heq
          obtain ⟨z, hz⟩ : ∃ z, xs[j]? = some z := ⟨_, List.getElem?_eq_getElem (by rw [Hxl.out]; exact hjM)⟩
          have g1 := hcl j (.int .u8 z) (by rw [List.getElem?_map, hz]; rfl)
          have g2 := hfr j
          have Hset : Hid (∀ z2 : Int, Sat (wr.setCell ⟨ob, off + j, none⟩ (.int .u8 z2)) (sl 5 1 nw.length (.slice xo nw.length xap) (nw.map byteV) :: decRes d lim q2 :: sl 5 1 M (.slice (some ⟨ob, off, none⟩) M wap) ((xs.set j z2).map (Value.int .u8)) :: Rs)) := by
            intro z2
            have h5 := hF.sl_set j (by rw [List.length_map, Hxl.out]; exact hjM) (.int .u8 z2)
            rw [← List.map_set] at h5
            exact Sat.perm (As := [_, _, _]) h5 [1, 2, 0] [_, _, _] rfl (by simp)
          clear hF hcl hfr hz
          go_wp2
          exact ⟨⟨j + 1, xs.set j _, by omega, vi (by omega), by unfold Hid; rw [List.length_set]; exact Hxl.out, Hset.out _⟩, by simp [intOf]; omega⟩
        have hjd : decide ((j : Int) < (M : Int)) = false := decide_eq_false (by omega)
        have HOf := Lib.hid (of_run (lim := lim) (ys := ys.take E) (v := .slice ao E cap) HS11.out (by omega) (fun w' h' => (by have h1 := SlR.head (Hu.out w' h'.tail.tail.tail) E hEy; rw [← List.map_take] at h1; rw [show (ys.take E).length = E by rw [List.length_take]; omega]; exact h1)) (by rw [List.length_take]; omega))
        clear HS11
        cases bd
        · go_wp2_with (go_at_call 38; refine HOf.out.mono ?_; rintro e' w12 ⟨pr, rr, rfl, hfin, hro, hS12⟩; have HS12 := Lib.hid hS12; have Hro := Lib.hid hro; have Hfo := Lib.hid (final_of HT2.out hfin); clear HOf hS12 hro hfin)
          obtain ⟨rb, ro, re, rdn, rks⟩ := rr
          obtain ⟨f1, f2, f3, f4⟩ := Hfo.out
          replace f1 : ro = q2.hist := f1
          replace f2 : rdn = q2.done := f2
          replace f3 : clearE re = q2.err := f3
          replace f4 : rdn = true → ∀ rs, RestOk q2 rs → bitsOf rs = rb.drop (rb.length % 8) := f4
          subst f1
          obtain ⟨bv9, ov9, kv9, hL0⟩ := run_open HS12.out
          obtain ⟨_, roo, rocap, rfl, hroc, -, -, -⟩ := hL0.at_ 2 _ rfl
          have HL := Lib.hid hL0
          obtain ⟨-, p2, -, p4, p5, -⟩ := run_cells hL0
          replace p2 : w12.cell? ⟨pr, 2, none⟩ = some (.slice roo q2.hist.length rocap) := p2
          replace p4 : w12.cell? ⟨pr, 4, none⟩ = some (.int .i64 (re : Nat)) := p4
          replace p5 : w12.cell? ⟨pr, 5, none⟩ = some (.bool rdn) := p5
          clear hL0
          have Hcl := clear_any w12.drew re
          rw [f3] at Hcl
          have Hcl := Lib.hid Hcl
          have hlen : q.hist.length ≤ q2.hist.length := by rw [Hnw.out, List.length_append]; omega
          have hlenI : decide ((q2.hist.length : Int) < (q.hist.length : Int)) = false := decide_eq_false (by omega)
          have hlenN : decide (q2.hist.length < q.hist.length) = false := decide_eq_false (by omega)
          have hnwd : q2.hist.drop q.hist.length = nw := by rw [Hnw.out]; exact List.drop_left ..
          have Hdn := done_all (Sat.front HS12.out.drew 2 _ rfl)
          have HdnH := Lib.hid Hdn
          have HrsA := Lib.hid (rest_all (Rs := _ :: _ :: _ :: _ :: _ :: _ :: Rs) (Sat.perm (As := [_, _, _, _, _, _, _]) HL.out.drew [5, 0, 1, 2, 3, 4, 6] [_, _, _, _, _, _, _] rfl (by simp)))
          have HSame : Hid (∀ x, x = .slice (if rocap = q.hist.length then roo else Option.map (fun x => x.add q.hist.length) roo) (q2.hist.length - q.hist.length) (rocap - q.hist.length) → Calls Try.prog 34 #[.slice xo nw.length xap, x] w12.drew fun e' w' => e' = .returned (.bool true) ∧ w' = w12.drew) := by
            rintro x rfl
            have h9 := HL.out.drew
            have h10 := SlR.rest (Sat.front h9 2 _ rfl).sl_read q.hist.length hlen
            rw [← List.map_drop, hnwd] at h10
            have hnl : q2.hist.length - q.hist.length = nw.length := by rw [Hnw.out, List.length_append]; omega
            rw [hnl] at h10 ⊢
            refine (same_d (xs := nw) (ys := nw) (Sat.front HS12.out.drew 1 _ rfl).sl_read h10).mono ?_
            rintro e' w' ⟨rfl, rfl⟩
            rw [beq_self_eq_true]
            exact ⟨rfl, rfl⟩
          have Hf4 := Lib.hid f4
          clear hnwd f4 f3 Hfo Hdn hroc
          rcases Decidable.em (rocap = q.hist.length) with hrc | hrc
          · have HSame2 : Hid (∀ x, x = .slice (if rocap = q.hist.length then roo else Option.map (fun x => x.add q.hist.length) roo) (q2.hist.length - q.hist.length) (rocap - q.hist.length) → Calls Try.prog 34 #[.slice xo nw.length xap, x] w12.drew fun e' w' => e' = .returned (.bool true) ∧ w' = w12.drew) := HSame
            clear HSame
            cases hdn : q2.done
            · as_aux_lemma =>
                have Hhdn := Lib.hid hdn
                rw [hdn] at f2 HdnH
                subst f2
                clear hdn
                have hS0 : w12.drew.cell? ⟨pr, 4, none⟩ = some (.int .i64 (re : Nat)) ∧ w12.drew.cell? ⟨pr, 2, none⟩ = some (.slice roo q2.hist.length rocap) ∧ w12.drew.cell? ⟨pr, 5, none⟩ = some (.bool false) := ⟨p4, p2, p5⟩
                clear p4 p2 p5
                refine wp_region_hz (z := 1000) (S := fun w' => w'.cell? ⟨pr, 4, none⟩ = some (.int .i64 (re : Nat)) ∧ w'.cell? ⟨pr, 2, none⟩ = some (.slice roo q2.hist.length rocap) ∧ w'.cell? ⟨pr, 5, none⟩ = some (.bool false)) (by kernel_rfl) hS0 (fun hHeld => ?_)
                refine wpHz_takenZ 0 102 ?v1 (by kernel_rfl) (by kernel_rfl) (by kernel_rfl) (by kernel_rfl) (Nat.le_of_ble_eq_true (by kernel_rfl)) (fun _ _ _ h => h) (by rfl) ?hy1 (by assumption) ?rest1
                case hy1 => intro w hSw; (try dsimp only at hSw); simp only [List.getElem?_toArray, List.getElem?_cons_zero, List.getElem?_cons_succ]; go_simp; (try with_reducible rfl)
                try simp only [Act.put, List.setIfInBounds_toArray, List.set_cons_zero, List.set_cons_succ]
                refine wpHz_takenZ 1 103 ?v2 (by kernel_rfl) (by kernel_rfl) (by kernel_rfl) (by kernel_rfl) (Nat.le_of_ble_eq_true (by kernel_rfl)) (fun _ _ _ h => h) (by rfl) ?hy2 (by assumption) ?rest2
                case hy2 => intro w hSw; (try dsimp only at hSw); simp only [List.getElem?_toArray, List.getElem?_cons_zero, List.getElem?_cons_succ]; go_simp; (try with_reducible rfl)
                try simp only [Act.put, List.setIfInBounds_toArray, List.set_cons_zero, List.set_cons_succ]
                refine wpHz_takenZ 2 104 ?v3 (by kernel_rfl) (by kernel_rfl) (by kernel_rfl) (by kernel_rfl) (Nat.le_of_ble_eq_true (by kernel_rfl)) (fun _ _ _ h => h) (by rfl) ?hy3 (by assumption) ?rest3
                case hy3 => intro w hSw; (try dsimp only at hSw); simp only [List.getElem?_toArray, List.getElem?_cons_zero, List.getElem?_cons_succ]; go_simp; (try with_reducible rfl)
                try simp only [Act.put, List.setIfInBounds_toArray, List.set_cons_zero, List.set_cons_succ]
                refine wpHz_takenZ 3 105 ?v4 (by kernel_rfl) (by kernel_rfl) (by kernel_rfl) (by kernel_rfl) (Nat.le_of_ble_eq_true (by kernel_rfl)) (fun _ _ _ h => h) (by rfl) ?hy4 (by assumption) ?rest4
                case hy4 => intro w hSw; (try dsimp only at hSw); simp only [List.getElem?_toArray, List.getElem?_cons_zero, List.getElem?_cons_succ]; go_simp; (try with_reducible rfl)
                try simp only [Act.put, List.setIfInBounds_toArray, List.set_cons_zero, List.set_cons_succ]
                refine wpHz_takenZ 4 106 ?v5 (by kernel_rfl) (by kernel_rfl) (by kernel_rfl) (by kernel_rfl) (Nat.le_of_ble_eq_true (by kernel_rfl)) (fun _ _ _ h => h) (by rfl) ?hy5 (by assumption) ?rest5
                case hy5 => intro w hSw; (try dsimp only at hSw); simp only [List.getElem?_toArray, List.getElem?_cons_zero, List.getElem?_cons_succ]; go_simp; (try with_reducible rfl)
                try simp only [Act.put, List.setIfInBounds_toArray, List.set_cons_zero, List.set_cons_succ]
                refine wpHz_one 5 (by kernel_rfl) (by rfl) (fun K hK => ?_)
                simp only [List.getElem?_toArray, List.getElem?_cons_zero, List.getElem?_cons_succ]
                go_wp2_with (go_at_call 39; refine Hcl.out.mono ?_; rintro e' w13 ⟨rfl, rfl⟩)
                clear hHeld
                refine hK.out _ _ (fun _ => hS0) (fun hHeld => ?_)
                replace hHeld := hHeld (by decide)
                clear hK K
                try simp only [Act.put, List.setIfInBounds_toArray, List.set_cons_zero, List.set_cons_succ]
                refine wpHz_takenZ 6 108 ?v7 (by kernel_rfl) (by kernel_rfl) (by kernel_rfl) (by kernel_rfl) (Nat.le_of_ble_eq_true (by kernel_rfl)) (fun _ _ _ h => h) (by rfl) ?hy7 (by assumption) ?rest7
                case hy7 => intro w hSw; (try dsimp only at hSw); simp only [List.getElem?_toArray, List.getElem?_cons_zero, List.getElem?_cons_succ]; go_simp; (try with_reducible rfl)
                try simp only [Act.put, List.setIfInBounds_toArray, List.set_cons_zero, List.set_cons_succ]
                refine wpHz_takenZ 7 109 ?v8 (by kernel_rfl) (by kernel_rfl) (by kernel_rfl) (by kernel_rfl) (Nat.le_of_ble_eq_true (by kernel_rfl)) (fun _ _ _ h => h) (by rfl) ?hy8 (by assumption) ?rest8
                case hy8 => intro w hSw; (try dsimp only at hSw); simp only [List.getElem?_toArray, List.getElem?_cons_zero, List.getElem?_cons_succ]; go_simp; (try with_reducible rfl)
                try simp only [Act.put, List.setIfInBounds_toArray, List.set_cons_zero, List.set_cons_succ]
                refine wpHz_takenZ 8 110 ?v9 (by kernel_rfl) (by kernel_rfl) (by kernel_rfl) (by kernel_rfl) (Nat.le_of_ble_eq_true (by kernel_rfl)) (fun _ _ _ h => h) (by rfl) ?hy9 (by assumption) ?rest9
                case hy9 => intro w hSw; (try dsimp only at hSw); simp only [List.getElem?_toArray, List.getElem?_cons_zero, List.getElem?_cons_succ]; go_simp; (try with_reducible rfl)
                try simp only [Act.put, List.setIfInBounds_toArray, List.set_cons_zero, List.set_cons_succ]
                refine wpHz_takenZ 9 111 ?v10 (by kernel_rfl) (by kernel_rfl) (by kernel_rfl) (by kernel_rfl) (Nat.le_of_ble_eq_true (by kernel_rfl)) (fun _ _ _ h => h) (by rfl) ?hy10 (by assumption) ?rest10
                case hy10 => intro w hSw; (try dsimp only at hSw); simp only [List.getElem?_toArray, List.getElem?_cons_zero, List.getElem?_cons_succ]; go_simp; (try with_reducible rfl)
                try simp only [Act.put, List.setIfInBounds_toArray, List.set_cons_zero, List.set_cons_succ]
                refine wpHz_takenZ 10 112 ?v11 (by kernel_rfl) (by kernel_rfl) (by kernel_rfl) (by kernel_rfl) (Nat.le_of_ble_eq_true (by kernel_rfl)) (fun _ _ _ h => h) (by rfl) ?hy11 (by assumption) ?rest11
                case hy11 => intro w hSw; (try dsimp only at hSw); simp only [List.getElem?_toArray, List.getElem?_cons_zero, List.getElem?_cons_succ]; go_simp; (try with_reducible rfl)
                try simp only [Act.put, List.setIfInBounds_toArray, List.set_cons_zero, List.set_cons_succ]
                refine wpHz_takenZ 11 113 ?v12 (by kernel_rfl) (by kernel_rfl) (by kernel_rfl) (by kernel_rfl) (Nat.le_of_ble_eq_true (by kernel_rfl)) (fun _ _ _ h => h) (by rfl) ?hy12 (by assumption) ?rest12
                case hy12 => intro w hSw; (try dsimp only at hSw); simp only [List.getElem?_toArray, List.getElem?_cons_zero, List.getElem?_cons_succ]; go_simp; (try with_reducible rfl)
                try simp only [Act.put, List.setIfInBounds_toArray, List.set_cons_zero, List.set_cons_succ]
                refine wpHz_takenZ 12 114 ?v13 (by kernel_rfl) (by kernel_rfl) (by kernel_rfl) (by kernel_rfl) (Nat.le_of_ble_eq_true (by kernel_rfl)) (fun _ _ _ h => h) (by rfl) ?hy13 (by assumption) ?rest13
                case hy13 => intro w hSw; (try dsimp only at hSw); simp only [List.getElem?_toArray, List.getElem?_cons_zero, List.getElem?_cons_succ]; go_simp; (try with_reducible rfl)
                try simp only [Act.put, List.setIfInBounds_toArray, List.set_cons_zero, List.set_cons_succ]
                refine wpHz_takenZ 13 115 ?v14 (by kernel_rfl) (by kernel_rfl) (by kernel_rfl) (by kernel_rfl) (Nat.le_of_ble_eq_true (by kernel_rfl)) (fun _ _ _ h => h) (by rfl) ?hy14 (by assumption) ?rest14
                case hy14 => intro w hSw; (try dsimp only at hSw); simp only [List.getElem?_toArray, List.getElem?_cons_zero, List.getElem?_cons_succ]; go_simp; (try with_reducible rfl)
                try simp only [Act.put, List.setIfInBounds_toArray, List.set_cons_zero, List.set_cons_succ]
                refine wpHz_takenZ 14 116 ?v15 (by kernel_rfl) (by kernel_rfl) (by kernel_rfl) (by kernel_rfl) (Nat.le_of_ble_eq_true (by kernel_rfl)) (fun _ _ _ h => h) (by rfl) ?hy15 (by assumption) ?rest15
                case hy15 => intro w hSw; (try dsimp only at hSw); simp only [List.getElem?_toArray, List.getElem?_cons_zero, List.getElem?_cons_succ]; go_simp; (try with_reducible rfl)
                try simp only [Act.put, List.setIfInBounds_toArray, List.set_cons_zero, List.set_cons_succ]
                refine wpHz_takenZ 15 117 ?v16 (by kernel_rfl) (by kernel_rfl) (by kernel_rfl) (by kernel_rfl) (Nat.le_of_ble_eq_true (by kernel_rfl)) (fun _ _ _ h => h) (by rfl) ?hy16 (by assumption) ?rest16
                case hy16 => intro w hSw; (try dsimp only at hSw); simp only [List.getElem?_toArray, List.getElem?_cons_zero, List.getElem?_cons_succ]; go_simp; (try with_reducible rfl)
                try simp only [Act.put, List.setIfInBounds_toArray, List.set_cons_zero, List.set_cons_succ]
                refine wpHz_takenZ 16 118 ?v17 (by kernel_rfl) (by kernel_rfl) (by kernel_rfl) (by kernel_rfl) (Nat.le_of_ble_eq_true (by kernel_rfl)) (fun _ _ _ h => h) (by rfl) ?hy17 (by assumption) ?rest17
                case hy17 => intro w hSw; (try dsimp only at hSw); simp only [List.getElem?_toArray, List.getElem?_cons_zero, List.getElem?_cons_succ]; go_simp; (try with_reducible rfl)
                try simp only [Act.put, List.setIfInBounds_toArray, List.set_cons_zero, List.set_cons_succ]
                refine wpHz_takenZ 17 119 ?v18 (by kernel_rfl) (by kernel_rfl) (by kernel_rfl) (by kernel_rfl) (Nat.le_of_ble_eq_true (by kernel_rfl)) (fun _ _ _ h => h) (by rfl) ?hy18 (by assumption) ?rest18
                case hy18 => intro w hSw; (try dsimp only at hSw); simp only [List.getElem?_toArray, List.getElem?_cons_zero, List.getElem?_cons_succ]; go_simp; (try with_reducible rfl)
                try simp only [Act.put, List.setIfInBounds_toArray, List.set_cons_zero, List.set_cons_succ]
                refine wpHz_takenZ 18 120 ?v19 (by kernel_rfl) (by kernel_rfl) (by kernel_rfl) (by kernel_rfl) (Nat.le_of_ble_eq_true (by kernel_rfl)) (fun _ _ _ h => h) (by rfl) ?hy19 (by assumption) ?rest19
                case hy19 => intro w hSw; (try dsimp only at hSw); simp only [List.getElem?_toArray, List.getElem?_cons_zero, List.getElem?_cons_succ]; go_simp; (try with_reducible rfl)
                try simp only [Act.put, List.setIfInBounds_toArray, List.set_cons_zero, List.set_cons_succ]
                refine wpHz_takenZ 19 121 ?v20 (by kernel_rfl) (by kernel_rfl) (by kernel_rfl) (by kernel_rfl) (Nat.le_of_ble_eq_true (by kernel_rfl)) (fun _ _ _ h => h) (by rfl) ?hy20 (by assumption) ?rest20
                case hy20 => intro w hSw; (try dsimp only at hSw); simp only [List.getElem?_toArray, List.getElem?_cons_zero, List.getElem?_cons_succ]; go_simp; (try with_reducible rfl)
                try simp only [Act.put, List.setIfInBounds_toArray, List.set_cons_zero, List.set_cons_succ]
                refine wpHz_takenZ 20 122 ?v21 (by kernel_rfl) (by kernel_rfl) (by kernel_rfl) (by kernel_rfl) (Nat.le_of_ble_eq_true (by kernel_rfl)) (fun _ _ _ h => h) (by rfl) ?hy21 (by assumption) ?rest21
                case hy21 => intro w hSw; (try dsimp only at hSw); simp only [List.getElem?_toArray, List.getElem?_cons_zero, List.getElem?_cons_succ]; go_simp; (try with_reducible rfl)
                try simp only [Act.put, List.setIfInBounds_toArray, List.set_cons_zero, List.set_cons_succ]
                refine wpHz_takenZ 21 123 ?v22 (by kernel_rfl) (by kernel_rfl) (by kernel_rfl) (by kernel_rfl) (Nat.le_of_ble_eq_true (by kernel_rfl)) (fun _ _ _ h => h) (by rfl) ?hy22 (by assumption) ?rest22
                case hy22 => intro w hSw; (try dsimp only at hSw); simp only [List.getElem?_toArray, List.getElem?_cons_zero, List.getElem?_cons_succ]; go_simp; (try with_reducible rfl)
                try simp only [Act.put, List.setIfInBounds_toArray, List.set_cons_zero, List.set_cons_succ]
                refine wpHz_takenZ 22 124 ?v23 (by kernel_rfl) (by kernel_rfl) (by kernel_rfl) (by kernel_rfl) (Nat.le_of_ble_eq_true (by kernel_rfl)) (fun _ _ _ h => h) (by rfl) ?hy23 (by assumption) ?rest23
                case hy23 => intro w hSw; (try dsimp only at hSw); simp only [List.getElem?_toArray, List.getElem?_cons_zero, List.getElem?_cons_succ]; go_simp; (try with_reducible rfl)
                try simp only [Act.put, List.setIfInBounds_toArray, List.set_cons_zero, List.set_cons_succ]
                refine wpHz_takenZ 23 125 ?v24 (by kernel_rfl) (by kernel_rfl) (by kernel_rfl) (by kernel_rfl) (Nat.le_of_ble_eq_true (by kernel_rfl)) (fun _ _ _ h => h) (by rfl) ?hy24 (by assumption) ?rest24
                case hy24 => intro w hSw; (try dsimp only at hSw); simp only [List.getElem?_toArray, List.getElem?_cons_zero, List.getElem?_cons_succ]; go_simp; (try with_reducible rfl)
                try simp only [Act.put, List.setIfInBounds_toArray, List.set_cons_zero, List.set_cons_succ]
                as_aux_lemma =>
                  refine wpHz_one 24 (by kernel_rfl) (by rfl) (fun K hK => ?_)
                  simp only [List.getElem?_toArray, List.getElem?_cons_zero, List.getElem?_cons_succ]
                  go_wp2_with (go_at_call 34; refine (HSame2.out _ (by first | (rw [if_neg hrc]; done) | (rw [if_pos hrc, hrc, Nat.sub_self]; done) | (simp [hrc]; done))).mono ?_; rintro e' w13 ⟨rfl, rfl⟩)
                  clear hHeld
                  refine hK.out _ _ (fun _ => hS0) (fun hHeld => ?_)
                  replace hHeld := hHeld (by decide)
                  clear hK K
                  try simp only [Act.put, List.setIfInBounds_toArray, List.set_cons_zero, List.set_cons_succ]
                  refine wpHz_takenZ 25 127 ?v26 (by kernel_rfl) (by kernel_rfl) (by kernel_rfl) (by kernel_rfl) (Nat.le_of_ble_eq_true (by kernel_rfl)) (fun _ _ _ h => h) (by rfl) ?hy26 (by assumption) ?rest26
                  case hy26 => intro w hSw; (try dsimp only at hSw); simp only [List.getElem?_toArray, List.getElem?_cons_zero, List.getElem?_cons_succ]; go_simp; (try with_reducible rfl)
                  try simp only [Act.put, List.setIfInBounds_toArray, List.set_cons_zero, List.set_cons_succ]
                  refine wpHz_takenZ 26 128 ?v27 (by kernel_rfl) (by kernel_rfl) (by kernel_rfl) (by kernel_rfl) (Nat.le_of_ble_eq_true (by kernel_rfl)) (fun _ _ _ h => h) (by rfl) ?hy27 (by assumption) ?rest27
                  case hy27 => intro w hSw; (try dsimp only at hSw); simp only [List.getElem?_toArray, List.getElem?_cons_zero, List.getElem?_cons_succ]; go_simp; (try with_reducible rfl)
                  try simp only [Act.put, List.setIfInBounds_toArray, List.set_cons_zero, List.set_cons_succ]
                  refine wpHz_takenZ 27 129 ?v28 (by kernel_rfl) (by kernel_rfl) (by kernel_rfl) (by kernel_rfl) (Nat.le_of_ble_eq_true (by kernel_rfl)) (fun _ _ _ h => h) (by rfl) ?hy28 (by assumption) ?rest28
                  case hy28 => intro w hSw; (try dsimp only at hSw); simp only [List.getElem?_toArray, List.getElem?_cons_zero, List.getElem?_cons_succ]; go_simp; (try with_reducible rfl)
                  try simp only [Act.put, List.setIfInBounds_toArray, List.set_cons_zero, List.set_cons_succ]
                  refine wpHz_takenZ 28 130 ?v29 (by kernel_rfl) (by kernel_rfl) (by kernel_rfl) (by kernel_rfl) (Nat.le_of_ble_eq_true (by kernel_rfl)) (fun _ _ _ h => h) (by rfl) ?hy29 (by assumption) ?rest29
                  case hy29 => intro w hSw; (try dsimp only at hSw); simp only [List.getElem?_toArray, List.getElem?_cons_zero, List.getElem?_cons_succ]; go_simp; (try with_reducible rfl)
                  try simp only [Act.put, List.setIfInBounds_toArray, List.set_cons_zero, List.set_cons_succ]
                  refine wpHz_takenZ 30 132 ?v30 (by kernel_rfl) (by kernel_rfl) (by kernel_rfl) (by kernel_rfl) (Nat.le_of_ble_eq_true (by kernel_rfl)) (fun _ _ _ h => h) (by rfl) ?hy30 (by assumption) ?rest30
                  case hy30 => intro w hSw; (try dsimp only at hSw); simp only [List.getElem?_toArray, List.getElem?_cons_zero, List.getElem?_cons_succ]; go_simp; (try with_reducible rfl)
                  try simp only [Act.put, List.setIfInBounds_toArray, List.set_cons_zero, List.set_cons_succ]
                  refine wpHz_takenZ 31 133 ?v31 (by kernel_rfl) (by kernel_rfl) (by kernel_rfl) (by kernel_rfl) (Nat.le_of_ble_eq_true (by kernel_rfl)) (fun _ _ _ h => h) (by rfl) ?hy31 (by assumption) ?rest31
                  case hy31 => intro w hSw; (try dsimp only at hSw); simp only [List.getElem?_toArray, List.getElem?_cons_zero, List.getElem?_cons_succ]; go_simp; (try with_reducible rfl)
                  try simp only [Act.put, List.setIfInBounds_toArray, List.set_cons_zero, List.set_cons_succ]
                  refine wpHz_takenZ 32 134 ?v32 (by kernel_rfl) (by kernel_rfl) (by kernel_rfl) (by kernel_rfl) (Nat.le_of_ble_eq_true (by kernel_rfl)) (fun _ _ _ h => h) (by rfl) ?hy32 (by assumption) ?rest32
                  case hy32 => intro w hSw; (try dsimp only at hSw); simp only [List.getElem?_toArray, List.getElem?_cons_zero, List.getElem?_cons_succ]; go_simp; (try with_reducible rfl)
                  try simp only [Act.put, List.setIfInBounds_toArray, List.set_cons_zero, List.set_cons_succ]
                  refine wpHz_takenZ 33 135 ?v33 (by kernel_rfl) (by kernel_rfl) (by kernel_rfl) (by kernel_rfl) (Nat.le_of_ble_eq_true (by kernel_rfl)) (fun _ _ _ h => h) (by rfl) ?hy33 (by assumption) ?rest33
                  case hy33 => intro w hSw; (try dsimp only at hSw); simp only [List.getElem?_toArray, List.getElem?_cons_zero, List.getElem?_cons_succ]; go_simp; (try with_reducible rfl)
                  try simp only [Act.put, List.setIfInBounds_toArray, List.set_cons_zero, List.set_cons_succ]
                  as_aux_lemma =>
                    refine wpHz_one 29 (by kernel_rfl) (by rfl) (fun K hK => ?_)
                    simp only [List.getElem?_toArray, List.getElem?_cons_zero, List.getElem?_cons_succ]
                    go_wp2_with (go_at_call 35; refine HdnH.out.mono ?_; rintro e' w13 ⟨rfl, rfl⟩)
                    clear hHeld
                    refine hK.out _ _ (fun _ => hS0) (fun hHeld => ?_)
                    replace hHeld := hHeld (by decide)
                    clear hK K
                    try simp only [Act.put, List.setIfInBounds_toArray, List.set_cons_zero, List.set_cons_succ]
                    refine wpHz_takenZ 34 136 ?v35 (by kernel_rfl) (by kernel_rfl) (by kernel_rfl) (by kernel_rfl) (Nat.le_of_ble_eq_true (by kernel_rfl)) (fun _ _ _ h => h) (by rfl) ?hy35 (by assumption) ?rest35
                    case hy35 => intro w hSw; (try dsimp only at hSw); simp only [List.getElem?_toArray, List.getElem?_cons_zero, List.getElem?_cons_succ]; go_simp; (try with_reducible rfl)
                    try simp only [Act.put, List.setIfInBounds_toArray, List.set_cons_zero, List.set_cons_succ]
                    refine wpHz_takenZ 35 137 ?v36 (by kernel_rfl) (by kernel_rfl) (by kernel_rfl) (by kernel_rfl) (Nat.le_of_ble_eq_true (by kernel_rfl)) (fun _ _ _ h => h) (by rfl) ?hy36 (by assumption) ?rest36
                    case hy36 => intro w hSw; (try dsimp only at hSw); simp only [List.getElem?_toArray, List.getElem?_cons_zero, List.getElem?_cons_succ]; go_simp; (try with_reducible rfl)
                    try simp only [Act.put, List.setIfInBounds_toArray, List.set_cons_zero, List.set_cons_succ]
                    refine wpHz_takenZ 36 138 ?v37 (by kernel_rfl) (by kernel_rfl) (by kernel_rfl) (by kernel_rfl) (Nat.le_of_ble_eq_true (by kernel_rfl)) (fun _ _ _ h => h) (by rfl) ?hy37 (by assumption) ?rest37
                    case hy37 => intro w hSw; (try dsimp only at hSw); simp only [List.getElem?_toArray, List.getElem?_cons_zero, List.getElem?_cons_succ]; go_simp; (try with_reducible rfl)
                    try simp only [Act.put, List.setIfInBounds_toArray, List.set_cons_zero, List.set_cons_succ]
                    refine wpHz_takenZ 37 139 ?v38 (by kernel_rfl) (by kernel_rfl) (by kernel_rfl) (by kernel_rfl) (Nat.le_of_ble_eq_true (by kernel_rfl)) (fun _ _ _ h => h) (by rfl) ?hy38 (by assumption) ?rest38
                    case hy38 => intro w hSw; (try dsimp only at hSw); simp only [List.getElem?_toArray, List.getElem?_cons_zero, List.getElem?_cons_succ]; go_simp; (try with_reducible rfl)
                    try simp only [Act.put, List.setIfInBounds_toArray, List.set_cons_zero, List.set_cons_succ]
                    refine wpHz_takenZ 39 141 ?v39 (by kernel_rfl) (by kernel_rfl) (by kernel_rfl) (by kernel_rfl) (Nat.le_of_ble_eq_true (by kernel_rfl)) (fun _ _ _ h => h) (by rfl) ?hy39 (by assumption) ?rest39
                    case hy39 => intro w hSw; (try dsimp only at hSw); simp only [List.getElem?_toArray, List.getElem?_cons_zero, List.getElem?_cons_succ]; go_simp; (try with_reducible rfl)
                    try simp only [Act.put, List.setIfInBounds_toArray, List.set_cons_zero, List.set_cons_succ]
                    as_aux_lemma =>
                      refine wpHz_one 38 (by kernel_rfl) (by rfl) (fun K hK => ?_)
                      simp only [List.getElem?_toArray, List.getElem?_cons_zero, List.getElem?_cons_succ]
                      go_wp2_with (go_at_call 40; refine HrsA.out.mono ?_; rintro e' w14 ⟨v1, rs1, rfl, hr1, hS14⟩; obtain ⟨_, s1, s2, rfl, -, -, -, -⟩ := hS14.at_ 0 _ rfl)
                      have hrb := rest_nil hr1 Hhdn.out
                      have hS14b := Sat.perm (As := [_, _, _, _, _, _, _, _]) hS14 [2, 3, 4, 5, 0, 1, 6, 7] [_, _, _, _, _, _, _, _] rfl (by simp)
                      have c14 := run_cells (Rs := _ :: _ :: _ :: _ :: Rs) hS14b
                      clear hHeld
                      refine hK.out _ _ (fun _ => ⟨c14.2.2.2.1, c14.2.1, c14.2.2.2.2.1⟩) (fun hHeld => ?_)
                      replace hHeld := hHeld (by decide)
                      clear hK K
                      try simp only [Act.put, List.setIfInBounds_toArray, List.set_cons_zero, List.set_cons_succ]
                      have Hry := Lib.hid (rest_no (Rs := _ :: _ :: _ :: _ :: Rs) (run_shut hS14b))
                      have HsC := same_d (ys := []) hS14.sl_read (SlR.nil none 0 (by decide)); rw [show (rs1 == []) = true by rw [hrb]; rfl] at HsC; have HsC := Lib.hid HsC; have Htt := Lib.hid (total_all (Sat.front hS14 1 _ rfl)); have HS15 := Lib.hid hS14; have q2c := c14.2.1; have hS15c : w14.cell? ⟨pr, 4, none⟩ = some (.int .i64 (re : Nat)) ∧ w14.cell? ⟨pr, 2, none⟩ = some (.slice roo q2.hist.length rocap) ∧ w14.cell? ⟨pr, 5, none⟩ = some (.bool false) := ⟨c14.2.2.2.1, c14.2.1, c14.2.2.2.2.1⟩; clear hS14 hS14b c14 hrb hr1
                      refine wpHz_one 40 (by kernel_rfl) (by rfl) (fun K hK => ?_)
                      simp only [List.getElem?_toArray, List.getElem?_cons_zero, List.getElem?_cons_succ]
                      go_wp2_with (go_at_call 41; refine Hry.out.mono ?_; rintro e' w15 ⟨rfl, rfl⟩)
                      clear hHeld
                      refine hK.out _ _ (fun _ => hS15c) (fun hHeld => ?_)
                      replace hHeld := hHeld (by decide)
                      clear hK K
                      try simp only [Act.put, List.setIfInBounds_toArray, List.set_cons_zero, List.set_cons_succ]
                      clear Hry
                      as_aux_lemma =>
                        refine wpHz_one 41 (by kernel_rfl) (by rfl) (fun K hK => ?_)
                        simp only [List.getElem?_toArray, List.getElem?_cons_zero, List.getElem?_cons_succ]
                        go_wp2_with (go_at_call 34; refine HsC.out.mono ?_; rintro e' w16 ⟨rfl, rfl⟩)
                        clear hHeld
                        refine hK.out _ _ (fun _ => hS15c) (fun hHeld => ?_)
                        replace hHeld := hHeld (by decide)
                        clear hK K
                        try simp only [Act.put, List.setIfInBounds_toArray, List.set_cons_zero, List.set_cons_succ]
                        refine wpHz_takenZ 42 144 ?v43 (by kernel_rfl) (by kernel_rfl) (by kernel_rfl) (by kernel_rfl) (Nat.le_of_ble_eq_true (by kernel_rfl)) (fun _ _ _ h => h) (by rfl) ?hy43 (by assumption) ?rest43
                        case hy43 => intro w hSw; (try dsimp only at hSw); simp only [List.getElem?_toArray, List.getElem?_cons_zero, List.getElem?_cons_succ]; go_simp; (try with_reducible rfl)
                        try simp only [Act.put, List.setIfInBounds_toArray, List.set_cons_zero, List.set_cons_succ]
                        refine wpHz_takenZ 43 145 ?v44 (by kernel_rfl) (by kernel_rfl) (by kernel_rfl) (by kernel_rfl) (Nat.le_of_ble_eq_true (by kernel_rfl)) (fun _ _ _ h => h) (by rfl) ?hy44 (by assumption) ?rest44
                        case hy44 => intro w hSw; (try dsimp only at hSw); simp only [List.getElem?_toArray, List.getElem?_cons_zero, List.getElem?_cons_succ]; go_simp; (try with_reducible rfl)
                        try simp only [Act.put, List.setIfInBounds_toArray, List.set_cons_zero, List.set_cons_succ]
                        refine wpHz_takenZ 44 146 ?v45 (by kernel_rfl) (by kernel_rfl) (by kernel_rfl) (by kernel_rfl) (Nat.le_of_ble_eq_true (by kernel_rfl)) (fun _ _ _ h => h) (by rfl) ?hy45 (by assumption) ?rest45
                        case hy45 => intro w hSw; (try dsimp only at hSw); simp only [List.getElem?_toArray, List.getElem?_cons_zero, List.getElem?_cons_succ]; go_simp; (try with_reducible rfl)
                        try simp only [Act.put, List.setIfInBounds_toArray, List.set_cons_zero, List.set_cons_succ]
                        refine wpHz_takenZ 45 147 ?v46 (by kernel_rfl) (by kernel_rfl) (by kernel_rfl) (by kernel_rfl) (Nat.le_of_ble_eq_true (by kernel_rfl)) (fun _ _ _ h => h) (by rfl) ?hy46 (by assumption) ?rest46
                        case hy46 => intro w hSw; (try dsimp only at hSw); simp only [List.getElem?_toArray, List.getElem?_cons_zero, List.getElem?_cons_succ]; go_simp; (try with_reducible rfl)
                        try simp only [Act.put, List.setIfInBounds_toArray, List.set_cons_zero, List.set_cons_succ]
                        refine wpHz_takenZ 47 149 ?v47 (by kernel_rfl) (by kernel_rfl) (by kernel_rfl) (by kernel_rfl) (Nat.le_of_ble_eq_true (by kernel_rfl)) (fun _ _ _ h => h) (by rfl) ?hy47 (by assumption) ?rest47
                        case hy47 => intro w hSw; (try dsimp only at hSw); simp only [List.getElem?_toArray, List.getElem?_cons_zero, List.getElem?_cons_succ]; go_simp; (try with_reducible rfl)
                        try simp only [Act.put, List.setIfInBounds_toArray, List.set_cons_zero, List.set_cons_succ]
                        refine wpHz_takenZ 48 150 ?v48 (by kernel_rfl) (by kernel_rfl) (by kernel_rfl) (by kernel_rfl) (Nat.le_of_ble_eq_true (by kernel_rfl)) (fun _ _ _ h => h) (by rfl) ?hy48 (by assumption) ?rest48
                        case hy48 => intro w hSw; (try dsimp only at hSw); simp only [List.getElem?_toArray, List.getElem?_cons_zero, List.getElem?_cons_succ]; go_simp; (try with_reducible rfl)
                        try simp only [Act.put, List.setIfInBounds_toArray, List.set_cons_zero, List.set_cons_succ]
                        refine wpHz_takenZ 49 151 ?v49 (by kernel_rfl) (by kernel_rfl) (by kernel_rfl) (by kernel_rfl) (Nat.le_of_ble_eq_true (by kernel_rfl)) (fun _ _ _ h => h) (by rfl) ?hy49 (by assumption) ?rest49
                        case hy49 => intro w hSw; (try dsimp only at hSw); simp only [List.getElem?_toArray, List.getElem?_cons_zero, List.getElem?_cons_succ]; go_simp; (try with_reducible rfl)
                        try simp only [Act.put, List.setIfInBounds_toArray, List.set_cons_zero, List.set_cons_succ]
                        refine wpHz_takenZ 50 152 ?v50 (by kernel_rfl) (by kernel_rfl) (by kernel_rfl) (by kernel_rfl) (Nat.le_of_ble_eq_true (by kernel_rfl)) (fun _ _ _ h => h) (by rfl) ?hy50 (by assumption) ?rest50
                        case hy50 => intro w hSw; (try dsimp only at hSw); simp only [List.getElem?_toArray, List.getElem?_cons_zero, List.getElem?_cons_succ]; go_simp; (try with_reducible rfl)
                        try simp only [Act.put, List.setIfInBounds_toArray, List.set_cons_zero, List.set_cons_succ]
                        refine wpHz_takenZ 51 153 ?v51 (by kernel_rfl) (by kernel_rfl) (by kernel_rfl) (by kernel_rfl) (Nat.le_of_ble_eq_true (by kernel_rfl)) (fun _ _ _ h => h) (by rfl) ?hy51 (by assumption) ?rest51
                        case hy51 => intro w hSw; (try dsimp only at hSw); simp only [List.getElem?_toArray, List.getElem?_cons_zero, List.getElem?_cons_succ]; go_simp; (try with_reducible rfl)
                        try simp only [Act.put, List.setIfInBounds_toArray, List.set_cons_zero, List.set_cons_succ]
                        refine wpHz_one 46 (by kernel_rfl) (by rfl) (fun K hK => ?_)
                        simp only [List.getElem?_toArray, List.getElem?_cons_zero, List.getElem?_cons_succ]
                        go_wp2_with (go_at_call 42; refine Htt.out.mono ?_; rintro e' w16 ⟨rfl, rfl⟩)
                        clear hHeld
                        refine hK.out _ _ (fun _ => hS15c) (fun hHeld => ?_)
                        replace hHeld := hHeld (by decide)
                        clear hK K
                        try simp only [Act.put, List.setIfInBounds_toArray, List.set_cons_zero, List.set_cons_succ]
                        refine wpHz_takenZ 52 154 ?v53 (by kernel_rfl) (by kernel_rfl) (by kernel_rfl) (by kernel_rfl) (Nat.le_of_ble_eq_true (by kernel_rfl)) (fun _ _ _ h => h) (by rfl) ?hy53 (by assumption) ?rest53
                        case hy53 => intro w hSw; (try dsimp only at hSw); simp only [List.getElem?_toArray, List.getElem?_cons_zero, List.getElem?_cons_succ]; go_simp; (try with_reducible rfl)
                        try simp only [Act.put, List.setIfInBounds_toArray, List.set_cons_zero, List.set_cons_succ]
                        refine wpHz_takenZ 53 155 ?v54 (by kernel_rfl) (by kernel_rfl) (by kernel_rfl) (by kernel_rfl) (Nat.le_of_ble_eq_true (by kernel_rfl)) (fun _ _ _ h => h) (by rfl) ?hy54 (by assumption) ?rest54
                        case hy54 => intro w hSw; (try dsimp only at hSw); simp only [List.getElem?_toArray, List.getElem?_cons_zero, List.getElem?_cons_succ]; go_simp; (try with_reducible rfl)
                        try simp only [Act.put, List.setIfInBounds_toArray, List.set_cons_zero, List.set_cons_succ]
                        refine wpHz_done (by kernel_rfl) ?_ _
                        have q2c := hS15c.2.1
                        clear hS15c hS0 hHeld HsC Htt HSame2 HdnH Hcl HrsA
                        clear Hf4 Hpl
                        go_wp2
                        refine ⟨⟨k + 1, E, q2, _, by omega, hEy, vi (by omega), rfl, rfl, rfl, ?_, HT2.out, Sat.perm (As := [_, _, _, _, _, _, _, _]) HS15.out [1] [_] rfl (by simp)⟩, by simp [intOf] <;> omega⟩
                        unfold Hid
                        rw [Bool.eq_iff_iff]
                        simp
            · as_aux_lemma =>
                have Hhdn := Lib.hid hdn
                rw [hdn] at f2 HdnH
                subst f2
                clear hdn
                have hS0 : w12.drew.cell? ⟨pr, 4, none⟩ = some (.int .i64 (re : Nat)) ∧ w12.drew.cell? ⟨pr, 2, none⟩ = some (.slice roo q2.hist.length rocap) ∧ w12.drew.cell? ⟨pr, 5, none⟩ = some (.bool true) := ⟨p4, p2, p5⟩
                clear p4 p2 p5
                refine wp_region_hz (z := 1000) (S := fun w' => w'.cell? ⟨pr, 4, none⟩ = some (.int .i64 (re : Nat)) ∧ w'.cell? ⟨pr, 2, none⟩ = some (.slice roo q2.hist.length rocap) ∧ w'.cell? ⟨pr, 5, none⟩ = some (.bool true)) (by kernel_rfl) hS0 (fun hHeld => ?_)
                refine wpHz_takenZ 0 102 ?v55 (by kernel_rfl) (by kernel_rfl) (by kernel_rfl) (by kernel_rfl) (Nat.le_of_ble_eq_true (by kernel_rfl)) (fun _ _ _ h => h) (by rfl) ?hy55 (by assumption) ?rest55
                case hy55 => intro w hSw; (try dsimp only at hSw); simp only [List.getElem?_toArray, List.getElem?_cons_zero, List.getElem?_cons_succ]; go_simp; (try with_reducible rfl)
                try simp only [Act.put, List.setIfInBounds_toArray, List.set_cons_zero, List.set_cons_succ]
                refine wpHz_takenZ 1 103 ?v56 (by kernel_rfl) (by kernel_rfl) (by kernel_rfl) (by kernel_rfl) (Nat.le_of_ble_eq_true (by kernel_rfl)) (fun _ _ _ h => h) (by rfl) ?hy56 (by assumption) ?rest56
                case hy56 => intro w hSw; (try dsimp only at hSw); simp only [List.getElem?_toArray, List.getElem?_cons_zero, List.getElem?_cons_succ]; go_simp; (try with_reducible rfl)
                try simp only [Act.put, List.setIfInBounds_toArray, List.set_cons_zero, List.set_cons_succ]
                refine wpHz_takenZ 2 104 ?v57 (by kernel_rfl) (by kernel_rfl) (by kernel_rfl) (by kernel_rfl) (Nat.le_of_ble_eq_true (by kernel_rfl)) (fun _ _ _ h => h) (by rfl) ?hy57 (by assumption) ?rest57
                case hy57 => intro w hSw; (try dsimp only at hSw); simp only [List.getElem?_toArray, List.getElem?_cons_zero, List.getElem?_cons_succ]; go_simp; (try with_reducible rfl)
                try simp only [Act.put, List.setIfInBounds_toArray, List.set_cons_zero, List.set_cons_succ]
                refine wpHz_takenZ 3 105 ?v58 (by kernel_rfl) (by kernel_rfl) (by kernel_rfl) (by kernel_rfl) (Nat.le_of_ble_eq_true (by kernel_rfl)) (fun _ _ _ h => h) (by rfl) ?hy58 (by assumption) ?rest58
                case hy58 => intro w hSw; (try dsimp only at hSw); simp only [List.getElem?_toArray, List.getElem?_cons_zero, List.getElem?_cons_succ]; go_simp; (try with_reducible rfl)
                try simp only [Act.put, List.setIfInBounds_toArray, List.set_cons_zero, List.set_cons_succ]
                refine wpHz_takenZ 4 106 ?v59 (by kernel_rfl) (by kernel_rfl) (by kernel_rfl) (by kernel_rfl) (Nat.le_of_ble_eq_true (by kernel_rfl)) (fun _ _ _ h => h) (by rfl) ?hy59 (by assumption) ?rest59
                case hy59 => intro w hSw; (try dsimp only at hSw); simp only [List.getElem?_toArray, List.getElem?_cons_zero, List.getElem?_cons_succ]; go_simp; (try with_reducible rfl)
                try simp only [Act.put, List.setIfInBounds_toArray, List.set_cons_zero, List.set_cons_succ]
                refine wpHz_one 5 (by kernel_rfl) (by rfl) (fun K hK => ?_)
                simp only [List.getElem?_toArray, List.getElem?_cons_zero, List.getElem?_cons_succ]
                go_wp2_with (go_at_call 39; refine Hcl.out.mono ?_; rintro e' w13 ⟨rfl, rfl⟩)
                clear hHeld
                refine hK.out _ _ (fun _ => hS0) (fun hHeld => ?_)
                replace hHeld := hHeld (by decide)
                clear hK K
                try simp only [Act.put, List.setIfInBounds_toArray, List.set_cons_zero, List.set_cons_succ]
                refine wpHz_takenZ 6 108 ?v61 (by kernel_rfl) (by kernel_rfl) (by kernel_rfl) (by kernel_rfl) (Nat.le_of_ble_eq_true (by kernel_rfl)) (fun _ _ _ h => h) (by rfl) ?hy61 (by assumption) ?rest61
                case hy61 => intro w hSw; (try dsimp only at hSw); simp only [List.getElem?_toArray, List.getElem?_cons_zero, List.getElem?_cons_succ]; go_simp; (try with_reducible rfl)
                try simp only [Act.put, List.setIfInBounds_toArray, List.set_cons_zero, List.set_cons_succ]
                refine wpHz_takenZ 7 109 ?v62 (by kernel_rfl) (by kernel_rfl) (by kernel_rfl) (by kernel_rfl) (Nat.le_of_ble_eq_true (by kernel_rfl)) (fun _ _ _ h => h) (by rfl) ?hy62 (by assumption) ?rest62
                case hy62 => intro w hSw; (try dsimp only at hSw); simp only [List.getElem?_toArray, List.getElem?_cons_zero, List.getElem?_cons_succ]; go_simp; (try with_reducible rfl)
                try simp only [Act.put, List.setIfInBounds_toArray, List.set_cons_zero, List.set_cons_succ]
                refine wpHz_takenZ 8 110 ?v63 (by kernel_rfl) (by kernel_rfl) (by kernel_rfl) (by kernel_rfl) (Nat.le_of_ble_eq_true (by kernel_rfl)) (fun _ _ _ h => h) (by rfl) ?hy63 (by assumption) ?rest63
                case hy63 => intro w hSw; (try dsimp only at hSw); simp only [List.getElem?_toArray, List.getElem?_cons_zero, List.getElem?_cons_succ]; go_simp; (try with_reducible rfl)
                try simp only [Act.put, List.setIfInBounds_toArray, List.set_cons_zero, List.set_cons_succ]
                refine wpHz_takenZ 9 111 ?v64 (by kernel_rfl) (by kernel_rfl) (by kernel_rfl) (by kernel_rfl) (Nat.le_of_ble_eq_true (by kernel_rfl)) (fun _ _ _ h => h) (by rfl) ?hy64 (by assumption) ?rest64
                case hy64 => intro w hSw; (try dsimp only at hSw); simp only [List.getElem?_toArray, List.getElem?_cons_zero, List.getElem?_cons_succ]; go_simp; (try with_reducible rfl)
                try simp only [Act.put, List.setIfInBounds_toArray, List.set_cons_zero, List.set_cons_succ]
                refine wpHz_takenZ 10 112 ?v65 (by kernel_rfl) (by kernel_rfl) (by kernel_rfl) (by kernel_rfl) (Nat.le_of_ble_eq_true (by kernel_rfl)) (fun _ _ _ h => h) (by rfl) ?hy65 (by assumption) ?rest65
                case hy65 => intro w hSw; (try dsimp only at hSw); simp only [List.getElem?_toArray, List.getElem?_cons_zero, List.getElem?_cons_succ]; go_simp; (try with_reducible rfl)
                try simp only [Act.put, List.setIfInBounds_toArray, List.set_cons_zero, List.set_cons_succ]
                refine wpHz_takenZ 11 113 ?v66 (by kernel_rfl) (by kernel_rfl) (by kernel_rfl) (by kernel_rfl) (Nat.le_of_ble_eq_true (by kernel_rfl)) (fun _ _ _ h => h) (by rfl) ?hy66 (by assumption) ?rest66
                case hy66 => intro w hSw; (try dsimp only at hSw); simp only [List.getElem?_toArray, List.getElem?_cons_zero, List.getElem?_cons_succ]; go_simp; (try with_reducible rfl)
                try simp only [Act.put, List.setIfInBounds_toArray, List.set_cons_zero, List.set_cons_succ]
                refine wpHz_takenZ 12 114 ?v67 (by kernel_rfl) (by kernel_rfl) (by kernel_rfl) (by kernel_rfl) (Nat.le_of_ble_eq_true (by kernel_rfl)) (fun _ _ _ h => h) (by rfl) ?hy67 (by assumption) ?rest67
                case hy67 => intro w hSw; (try dsimp only at hSw); simp only [List.getElem?_toArray, List.getElem?_cons_zero, List.getElem?_cons_succ]; go_simp; (try with_reducible rfl)
                try simp only [Act.put, List.setIfInBounds_toArray, List.set_cons_zero, List.set_cons_succ]
                refine wpHz_takenZ 13 115 ?v68 (by kernel_rfl) (by kernel_rfl) (by kernel_rfl) (by kernel_rfl) (Nat.le_of_ble_eq_true (by kernel_rfl)) (fun _ _ _ h => h) (by rfl) ?hy68 (by assumption) ?rest68
                case hy68 => intro w hSw; (try dsimp only at hSw); simp only [List.getElem?_toArray, List.getElem?_cons_zero, List.getElem?_cons_succ]; go_simp; (try with_reducible rfl)
                try simp only [Act.put, List.setIfInBounds_toArray, List.set_cons_zero, List.set_cons_succ]
                refine wpHz_takenZ 14 116 ?v69 (by kernel_rfl) (by kernel_rfl) (by kernel_rfl) (by kernel_rfl) (Nat.le_of_ble_eq_true (by kernel_rfl)) (fun _ _ _ h => h) (by rfl) ?hy69 (by assumption) ?rest69
                case hy69 => intro w hSw; (try dsimp only at hSw); simp only [List.getElem?_toArray, List.getElem?_cons_zero, List.getElem?_cons_succ]; go_simp; (try with_reducible rfl)
                try simp only [Act.put, List.setIfInBounds_toArray, List.set_cons_zero, List.set_cons_succ]
                refine wpHz_takenZ 15 117 ?v70 (by kernel_rfl) (by kernel_rfl) (by kernel_rfl) (by kernel_rfl) (Nat.le_of_ble_eq_true (by kernel_rfl)) (fun _ _ _ h => h) (by rfl) ?hy70 (by assumption) ?rest70
                case hy70 => intro w hSw; (try dsimp only at hSw); simp only [List.getElem?_toArray, List.getElem?_cons_zero, List.getElem?_cons_succ]; go_simp; (try with_reducible rfl)
                try simp only [Act.put, List.setIfInBounds_toArray, List.set_cons_zero, List.set_cons_succ]
                refine wpHz_takenZ 16 118 ?v71 (by kernel_rfl) (by kernel_rfl) (by kernel_rfl) (by kernel_rfl) (Nat.le_of_ble_eq_true (by kernel_rfl)) (fun _ _ _ h => h) (by rfl) ?hy71 (by assumption) ?rest71
                case hy71 => intro w hSw; (try dsimp only at hSw); simp only [List.getElem?_toArray, List.getElem?_cons_zero, List.getElem?_cons_succ]; go_simp; (try with_reducible rfl)
                try simp only [Act.put, List.setIfInBounds_toArray, List.set_cons_zero, List.set_cons_succ]
                refine wpHz_takenZ 17 119 ?v72 (by kernel_rfl) (by kernel_rfl) (by kernel_rfl) (by kernel_rfl) (Nat.le_of_ble_eq_true (by kernel_rfl)) (fun _ _ _ h => h) (by rfl) ?hy72 (by assumption) ?rest72
                case hy72 => intro w hSw; (try dsimp only at hSw); simp only [List.getElem?_toArray, List.getElem?_cons_zero, List.getElem?_cons_succ]; go_simp; (try with_reducible rfl)
                try simp only [Act.put, List.setIfInBounds_toArray, List.set_cons_zero, List.set_cons_succ]
                refine wpHz_takenZ 18 120 ?v73 (by kernel_rfl) (by kernel_rfl) (by kernel_rfl) (by kernel_rfl) (Nat.le_of_ble_eq_true (by kernel_rfl)) (fun _ _ _ h => h) (by rfl) ?hy73 (by assumption) ?rest73
                case hy73 => intro w hSw; (try dsimp only at hSw); simp only [List.getElem?_toArray, List.getElem?_cons_zero, List.getElem?_cons_succ]; go_simp; (try with_reducible rfl)
                try simp only [Act.put, List.setIfInBounds_toArray, List.set_cons_zero, List.set_cons_succ]
                refine wpHz_takenZ 19 121 ?v74 (by kernel_rfl) (by kernel_rfl) (by kernel_rfl) (by kernel_rfl) (Nat.le_of_ble_eq_true (by kernel_rfl)) (fun _ _ _ h => h) (by rfl) ?hy74 (by assumption) ?rest74
                case hy74 => intro w hSw; (try dsimp only at hSw); simp only [List.getElem?_toArray, List.getElem?_cons_zero, List.getElem?_cons_succ]; go_simp; (try with_reducible rfl)
                try simp only [Act.put, List.setIfInBounds_toArray, List.set_cons_zero, List.set_cons_succ]
                refine wpHz_takenZ 20 122 ?v75 (by kernel_rfl) (by kernel_rfl) (by kernel_rfl) (by kernel_rfl) (Nat.le_of_ble_eq_true (by kernel_rfl)) (fun _ _ _ h => h) (by rfl) ?hy75 (by assumption) ?rest75
                case hy75 => intro w hSw; (try dsimp only at hSw); simp only [List.getElem?_toArray, List.getElem?_cons_zero, List.getElem?_cons_succ]; go_simp; (try with_reducible rfl)
                try simp only [Act.put, List.setIfInBounds_toArray, List.set_cons_zero, List.set_cons_succ]
                refine wpHz_takenZ 21 123 ?v76 (by kernel_rfl) (by kernel_rfl) (by kernel_rfl) (by kernel_rfl) (Nat.le_of_ble_eq_true (by kernel_rfl)) (fun _ _ _ h => h) (by rfl) ?hy76 (by assumption) ?rest76
                case hy76 => intro w hSw; (try dsimp only at hSw); simp only [List.getElem?_toArray, List.getElem?_cons_zero, List.getElem?_cons_succ]; go_simp; (try with_reducible rfl)
                try simp only [Act.put, List.setIfInBounds_toArray, List.set_cons_zero, List.set_cons_succ]
                refine wpHz_takenZ 22 124 ?v77 (by kernel_rfl) (by kernel_rfl) (by kernel_rfl) (by kernel_rfl) (Nat.le_of_ble_eq_true (by kernel_rfl)) (fun _ _ _ h => h) (by rfl) ?hy77 (by assumption) ?rest77
                case hy77 => intro w hSw; (try dsimp only at hSw); simp only [List.getElem?_toArray, List.getElem?_cons_zero, List.getElem?_cons_succ]; go_simp; (try with_reducible rfl)
                try simp only [Act.put, List.setIfInBounds_toArray, List.set_cons_zero, List.set_cons_succ]
                refine wpHz_takenZ 23 125 ?v78 (by kernel_rfl) (by kernel_rfl) (by kernel_rfl) (by kernel_rfl) (Nat.le_of_ble_eq_true (by kernel_rfl)) (fun _ _ _ h => h) (by rfl) ?hy78 (by assumption) ?rest78
                case hy78 => intro w hSw; (try dsimp only at hSw); simp only [List.getElem?_toArray, List.getElem?_cons_zero, List.getElem?_cons_succ]; go_simp; (try with_reducible rfl)
                try simp only [Act.put, List.setIfInBounds_toArray, List.set_cons_zero, List.set_cons_succ]
                as_aux_lemma =>
                  refine wpHz_one 24 (by kernel_rfl) (by rfl) (fun K hK => ?_)
                  simp only [List.getElem?_toArray, List.getElem?_cons_zero, List.getElem?_cons_succ]
                  go_wp2_with (go_at_call 34; refine (HSame2.out _ (by first | (rw [if_neg hrc]; done) | (rw [if_pos hrc, hrc, Nat.sub_self]; done) | (simp [hrc]; done))).mono ?_; rintro e' w13 ⟨rfl, rfl⟩)
                  clear hHeld
                  refine hK.out _ _ (fun _ => hS0) (fun hHeld => ?_)
                  replace hHeld := hHeld (by decide)
                  clear hK K
                  try simp only [Act.put, List.setIfInBounds_toArray, List.set_cons_zero, List.set_cons_succ]
                  refine wpHz_takenZ 25 127 ?v80 (by kernel_rfl) (by kernel_rfl) (by kernel_rfl) (by kernel_rfl) (Nat.le_of_ble_eq_true (by kernel_rfl)) (fun _ _ _ h => h) (by rfl) ?hy80 (by assumption) ?rest80
                  case hy80 => intro w hSw; (try dsimp only at hSw); simp only [List.getElem?_toArray, List.getElem?_cons_zero, List.getElem?_cons_succ]; go_simp; (try with_reducible rfl)
                  try simp only [Act.put, List.setIfInBounds_toArray, List.set_cons_zero, List.set_cons_succ]
                  refine wpHz_takenZ 26 128 ?v81 (by kernel_rfl) (by kernel_rfl) (by kernel_rfl) (by kernel_rfl) (Nat.le_of_ble_eq_true (by kernel_rfl)) (fun _ _ _ h => h) (by rfl) ?hy81 (by assumption) ?rest81
                  case hy81 => intro w hSw; (try dsimp only at hSw); simp only [List.getElem?_toArray, List.getElem?_cons_zero, List.getElem?_cons_succ]; go_simp; (try with_reducible rfl)
                  try simp only [Act.put, List.setIfInBounds_toArray, List.set_cons_zero, List.set_cons_succ]
                  refine wpHz_takenZ 27 129 ?v82 (by kernel_rfl) (by kernel_rfl) (by kernel_rfl) (by kernel_rfl) (Nat.le_of_ble_eq_true (by kernel_rfl)) (fun _ _ _ h => h) (by rfl) ?hy82 (by assumption) ?rest82
                  case hy82 => intro w hSw; (try dsimp only at hSw); simp only [List.getElem?_toArray, List.getElem?_cons_zero, List.getElem?_cons_succ]; go_simp; (try with_reducible rfl)
                  try simp only [Act.put, List.setIfInBounds_toArray, List.set_cons_zero, List.set_cons_succ]
                  refine wpHz_takenZ 28 130 ?v83 (by kernel_rfl) (by kernel_rfl) (by kernel_rfl) (by kernel_rfl) (Nat.le_of_ble_eq_true (by kernel_rfl)) (fun _ _ _ h => h) (by rfl) ?hy83 (by assumption) ?rest83
                  case hy83 => intro w hSw; (try dsimp only at hSw); simp only [List.getElem?_toArray, List.getElem?_cons_zero, List.getElem?_cons_succ]; go_simp; (try with_reducible rfl)
                  try simp only [Act.put, List.setIfInBounds_toArray, List.set_cons_zero, List.set_cons_succ]
                  refine wpHz_takenZ 30 132 ?v84 (by kernel_rfl) (by kernel_rfl) (by kernel_rfl) (by kernel_rfl) (Nat.le_of_ble_eq_true (by kernel_rfl)) (fun _ _ _ h => h) (by rfl) ?hy84 (by assumption) ?rest84
                  case hy84 => intro w hSw; (try dsimp only at hSw); simp only [List.getElem?_toArray, List.getElem?_cons_zero, List.getElem?_cons_succ]; go_simp; (try with_reducible rfl)
                  try simp only [Act.put, List.setIfInBounds_toArray, List.set_cons_zero, List.set_cons_succ]
                  refine wpHz_takenZ 31 133 ?v85 (by kernel_rfl) (by kernel_rfl) (by kernel_rfl) (by kernel_rfl) (Nat.le_of_ble_eq_true (by kernel_rfl)) (fun _ _ _ h => h) (by rfl) ?hy85 (by assumption) ?rest85
                  case hy85 => intro w hSw; (try dsimp only at hSw); simp only [List.getElem?_toArray, List.getElem?_cons_zero, List.getElem?_cons_succ]; go_simp; (try with_reducible rfl)
                  try simp only [Act.put, List.setIfInBounds_toArray, List.set_cons_zero, List.set_cons_succ]
                  refine wpHz_takenZ 32 134 ?v86 (by kernel_rfl) (by kernel_rfl) (by kernel_rfl) (by kernel_rfl) (Nat.le_of_ble_eq_true (by kernel_rfl)) (fun _ _ _ h => h) (by rfl) ?hy86 (by assumption) ?rest86
                  case hy86 => intro w hSw; (try dsimp only at hSw); simp only [List.getElem?_toArray, List.getElem?_cons_zero, List.getElem?_cons_succ]; go_simp; (try with_reducible rfl)
                  try simp only [Act.put, List.setIfInBounds_toArray, List.set_cons_zero, List.set_cons_succ]
                  refine wpHz_takenZ 33 135 ?v87 (by kernel_rfl) (by kernel_rfl) (by kernel_rfl) (by kernel_rfl) (Nat.le_of_ble_eq_true (by kernel_rfl)) (fun _ _ _ h => h) (by rfl) ?hy87 (by assumption) ?rest87
                  case hy87 => intro w hSw; (try dsimp only at hSw); simp only [List.getElem?_toArray, List.getElem?_cons_zero, List.getElem?_cons_succ]; go_simp; (try with_reducible rfl)
                  try simp only [Act.put, List.setIfInBounds_toArray, List.set_cons_zero, List.set_cons_succ]
                  as_aux_lemma =>
                    refine wpHz_one 29 (by kernel_rfl) (by rfl) (fun K hK => ?_)
                    simp only [List.getElem?_toArray, List.getElem?_cons_zero, List.getElem?_cons_succ]
                    go_wp2_with (go_at_call 35; refine HdnH.out.mono ?_; rintro e' w13 ⟨rfl, rfl⟩)
                    clear hHeld
                    refine hK.out _ _ (fun _ => hS0) (fun hHeld => ?_)
                    replace hHeld := hHeld (by decide)
                    clear hK K
                    try simp only [Act.put, List.setIfInBounds_toArray, List.set_cons_zero, List.set_cons_succ]
                    refine wpHz_takenZ 34 136 ?v89 (by kernel_rfl) (by kernel_rfl) (by kernel_rfl) (by kernel_rfl) (Nat.le_of_ble_eq_true (by kernel_rfl)) (fun _ _ _ h => h) (by rfl) ?hy89 (by assumption) ?rest89
                    case hy89 => intro w hSw; (try dsimp only at hSw); simp only [List.getElem?_toArray, List.getElem?_cons_zero, List.getElem?_cons_succ]; go_simp; (try with_reducible rfl)
                    try simp only [Act.put, List.setIfInBounds_toArray, List.set_cons_zero, List.set_cons_succ]
                    refine wpHz_takenZ 35 137 ?v90 (by kernel_rfl) (by kernel_rfl) (by kernel_rfl) (by kernel_rfl) (Nat.le_of_ble_eq_true (by kernel_rfl)) (fun _ _ _ h => h) (by rfl) ?hy90 (by assumption) ?rest90
                    case hy90 => intro w hSw; (try dsimp only at hSw); simp only [List.getElem?_toArray, List.getElem?_cons_zero, List.getElem?_cons_succ]; go_simp; (try with_reducible rfl)
                    try simp only [Act.put, List.setIfInBounds_toArray, List.set_cons_zero, List.set_cons_succ]
                    refine wpHz_takenZ 36 138 ?v91 (by kernel_rfl) (by kernel_rfl) (by kernel_rfl) (by kernel_rfl) (Nat.le_of_ble_eq_true (by kernel_rfl)) (fun _ _ _ h => h) (by rfl) ?hy91 (by assumption) ?rest91
                    case hy91 => intro w hSw; (try dsimp only at hSw); simp only [List.getElem?_toArray, List.getElem?_cons_zero, List.getElem?_cons_succ]; go_simp; (try with_reducible rfl)
                    try simp only [Act.put, List.setIfInBounds_toArray, List.set_cons_zero, List.set_cons_succ]
                    refine wpHz_takenZ 37 139 ?v92 (by kernel_rfl) (by kernel_rfl) (by kernel_rfl) (by kernel_rfl) (Nat.le_of_ble_eq_true (by kernel_rfl)) (fun _ _ _ h => h) (by rfl) ?hy92 (by assumption) ?rest92
                    case hy92 => intro w hSw; (try dsimp only at hSw); simp only [List.getElem?_toArray, List.getElem?_cons_zero, List.getElem?_cons_succ]; go_simp; (try with_reducible rfl)
                    try simp only [Act.put, List.setIfInBounds_toArray, List.set_cons_zero, List.set_cons_succ]
                    refine wpHz_takenZ 39 141 ?v93 (by kernel_rfl) (by kernel_rfl) (by kernel_rfl) (by kernel_rfl) (Nat.le_of_ble_eq_true (by kernel_rfl)) (fun _ _ _ h => h) (by rfl) ?hy93 (by assumption) ?rest93
                    case hy93 => intro w hSw; (try dsimp only at hSw); simp only [List.getElem?_toArray, List.getElem?_cons_zero, List.getElem?_cons_succ]; go_simp; (try with_reducible rfl)
                    try simp only [Act.put, List.setIfInBounds_toArray, List.set_cons_zero, List.set_cons_succ]
                    as_aux_lemma =>
                      refine wpHz_one 38 (by kernel_rfl) (by rfl) (fun K hK => ?_)
                      simp only [List.getElem?_toArray, List.getElem?_cons_zero, List.getElem?_cons_succ]
                      go_wp2_with (go_at_call 40; refine HrsA.out.mono ?_; rintro e' w14 ⟨v1, rs1, rfl, hr1, hS14⟩; obtain ⟨_, s1, s2, rfl, -, -, -, -⟩ := hS14.at_ 0 _ rfl)
                      have hrb := Hf4.out trivial rs1 hr1
                      have hrl1 : rs1.length ≤ 4194304 := by have h9 := rest_len HT2.out hr1; rw [List.length_take] at h9; omega
                      have hS14b := Sat.perm (As := [_, _, _, _, _, _, _, _]) hS14 [2, 3, 4, 5, 0, 1, 6, 7] [_, _, _, _, _, _, _, _] rfl (by simp)
                      have c14 := run_cells (Rs := _ :: _ :: _ :: _ :: Rs) hS14b
                      clear hHeld
                      refine hK.out _ _ (fun _ => ⟨c14.2.2.2.1, c14.2.1, c14.2.2.2.2.1⟩) (fun hHeld => ?_)
                      replace hHeld := hHeld (by decide)
                      clear hK K
                      try simp only [Act.put, List.setIfInBounds_toArray, List.set_cons_zero, List.set_cons_succ]
                      have Hry := Lib.hid (rest_yesL (Rs := _ :: _ :: _ :: _ :: Rs) hS14b rs1 hrb hrl1)
                      clear hS14 hS14b c14 hrl1 hrb hr1
                      refine wpHz_one 40 (by kernel_rfl) (by rfl) (fun K hK => ?_)
                      simp only [List.getElem?_toArray, List.getElem?_cons_zero, List.getElem?_cons_succ]
                      go_wp2_with (go_at_call 41; refine Hry.out.mono ?_; rintro e' w15 ⟨v2, rfl, hS15⟩; obtain ⟨_, s3, s4, rfl, -, -, -, -⟩ := hS15.at_ 0 _ rfl)
                      have c15 := run_cells (Rs := _ :: _ :: _ :: _ :: _ :: Rs) (Sat.perm (As := [_, _, _, _, _, _, _, _, _]) hS15 [1, 2, 3, 4, 0, 5, 6, 7, 8] [_, _, _, _, _, _, _, _, _] rfl (by simp))
                      have hS15c : w15.cell? ⟨pr, 4, none⟩ = some (.int .i64 (re : Nat)) ∧ w15.cell? ⟨pr, 2, none⟩ = some (.slice roo q2.hist.length rocap) ∧ w15.cell? ⟨pr, 5, none⟩ = some (.bool true) := ⟨c15.2.2.2.1, c15.2.1, c15.2.2.2.2.1⟩
                      have HsC := Lib.hid (same_d (Sat.front hS15 5 _ rfl).sl_read hS15.sl_read)
                      have Htt := Lib.hid (total_all (Sat.front hS15 6 _ rfl))
                      have HS15 := Lib.hid hS15
                      clear hHeld
                      refine hK.out _ _ (fun _ => hS15c) (fun hHeld => ?_)
                      replace hHeld := hHeld (by decide)
                      clear hK K
                      try simp only [Act.put, List.setIfInBounds_toArray, List.set_cons_zero, List.set_cons_succ]
                      clear hS15 c15 Hry
                      as_aux_lemma =>
                        refine wpHz_one 41 (by kernel_rfl) (by rfl) (fun K hK => ?_)
                        simp only [List.getElem?_toArray, List.getElem?_cons_zero, List.getElem?_cons_succ]
                        go_wp2_with (go_at_call 34; refine HsC.out.mono ?_; rintro e' w16 ⟨rfl, rfl⟩)
                        clear hHeld
                        refine hK.out _ _ (fun _ => hS15c) (fun hHeld => ?_)
                        replace hHeld := hHeld (by decide)
                        clear hK K
                        try simp only [Act.put, List.setIfInBounds_toArray, List.set_cons_zero, List.set_cons_succ]
                        refine wpHz_takenZ 42 144 ?v97 (by kernel_rfl) (by kernel_rfl) (by kernel_rfl) (by kernel_rfl) (Nat.le_of_ble_eq_true (by kernel_rfl)) (fun _ _ _ h => h) (by rfl) ?hy97 (by assumption) ?rest97
                        case hy97 => intro w hSw; (try dsimp only at hSw); simp only [List.getElem?_toArray, List.getElem?_cons_zero, List.getElem?_cons_succ]; go_simp; (try with_reducible rfl)
                        try simp only [Act.put, List.setIfInBounds_toArray, List.set_cons_zero, List.set_cons_succ]
                        refine wpHz_takenZ 43 145 ?v98 (by kernel_rfl) (by kernel_rfl) (by kernel_rfl) (by kernel_rfl) (Nat.le_of_ble_eq_true (by kernel_rfl)) (fun _ _ _ h => h) (by rfl) ?hy98 (by assumption) ?rest98
                        case hy98 => intro w hSw; (try dsimp only at hSw); simp only [List.getElem?_toArray, List.getElem?_cons_zero, List.getElem?_cons_succ]; go_simp; (try with_reducible rfl)
                        try simp only [Act.put, List.setIfInBounds_toArray, List.set_cons_zero, List.set_cons_succ]
                        refine wpHz_takenZ 44 146 ?v99 (by kernel_rfl) (by kernel_rfl) (by kernel_rfl) (by kernel_rfl) (Nat.le_of_ble_eq_true (by kernel_rfl)) (fun _ _ _ h => h) (by rfl) ?hy99 (by assumption) ?rest99
                        case hy99 => intro w hSw; (try dsimp only at hSw); simp only [List.getElem?_toArray, List.getElem?_cons_zero, List.getElem?_cons_succ]; go_simp; (try with_reducible rfl)
                        try simp only [Act.put, List.setIfInBounds_toArray, List.set_cons_zero, List.set_cons_succ]
                        refine wpHz_takenZ 45 147 ?v100 (by kernel_rfl) (by kernel_rfl) (by kernel_rfl) (by kernel_rfl) (Nat.le_of_ble_eq_true (by kernel_rfl)) (fun _ _ _ h => h) (by rfl) ?hy100 (by assumption) ?rest100
                        case hy100 => intro w hSw; (try dsimp only at hSw); simp only [List.getElem?_toArray, List.getElem?_cons_zero, List.getElem?_cons_succ]; go_simp; (try with_reducible rfl)
                        try simp only [Act.put, List.setIfInBounds_toArray, List.set_cons_zero, List.set_cons_succ]
                        refine wpHz_takenZ 47 149 ?v101 (by kernel_rfl) (by kernel_rfl) (by kernel_rfl) (by kernel_rfl) (Nat.le_of_ble_eq_true (by kernel_rfl)) (fun _ _ _ h => h) (by rfl) ?hy101 (by assumption) ?rest101
                        case hy101 => intro w hSw; (try dsimp only at hSw); simp only [List.getElem?_toArray, List.getElem?_cons_zero, List.getElem?_cons_succ]; go_simp; (try with_reducible rfl)
                        try simp only [Act.put, List.setIfInBounds_toArray, List.set_cons_zero, List.set_cons_succ]
                        refine wpHz_takenZ 48 150 ?v102 (by kernel_rfl) (by kernel_rfl) (by kernel_rfl) (by kernel_rfl) (Nat.le_of_ble_eq_true (by kernel_rfl)) (fun _ _ _ h => h) (by rfl) ?hy102 (by assumption) ?rest102
                        case hy102 => intro w hSw; (try dsimp only at hSw); simp only [List.getElem?_toArray, List.getElem?_cons_zero, List.getElem?_cons_succ]; go_simp; (try with_reducible rfl)
                        try simp only [Act.put, List.setIfInBounds_toArray, List.set_cons_zero, List.set_cons_succ]
                        refine wpHz_takenZ 49 151 ?v103 (by kernel_rfl) (by kernel_rfl) (by kernel_rfl) (by kernel_rfl) (Nat.le_of_ble_eq_true (by kernel_rfl)) (fun _ _ _ h => h) (by rfl) ?hy103 (by assumption) ?rest103
                        case hy103 => intro w hSw; (try dsimp only at hSw); simp only [List.getElem?_toArray, List.getElem?_cons_zero, List.getElem?_cons_succ]; go_simp; (try with_reducible rfl)
                        try simp only [Act.put, List.setIfInBounds_toArray, List.set_cons_zero, List.set_cons_succ]
                        refine wpHz_takenZ 50 152 ?v104 (by kernel_rfl) (by kernel_rfl) (by kernel_rfl) (by kernel_rfl) (Nat.le_of_ble_eq_true (by kernel_rfl)) (fun _ _ _ h => h) (by rfl) ?hy104 (by assumption) ?rest104
                        case hy104 => intro w hSw; (try dsimp only at hSw); simp only [List.getElem?_toArray, List.getElem?_cons_zero, List.getElem?_cons_succ]; go_simp; (try with_reducible rfl)
                        try simp only [Act.put, List.setIfInBounds_toArray, List.set_cons_zero, List.set_cons_succ]
                        refine wpHz_takenZ 51 153 ?v105 (by kernel_rfl) (by kernel_rfl) (by kernel_rfl) (by kernel_rfl) (Nat.le_of_ble_eq_true (by kernel_rfl)) (fun _ _ _ h => h) (by rfl) ?hy105 (by assumption) ?rest105
                        case hy105 => intro w hSw; (try dsimp only at hSw); simp only [List.getElem?_toArray, List.getElem?_cons_zero, List.getElem?_cons_succ]; go_simp; (try with_reducible rfl)
                        try simp only [Act.put, List.setIfInBounds_toArray, List.set_cons_zero, List.set_cons_succ]
                        refine wpHz_one 46 (by kernel_rfl) (by rfl) (fun K hK => ?_)
                        simp only [List.getElem?_toArray, List.getElem?_cons_zero, List.getElem?_cons_succ]
                        go_wp2_with (go_at_call 42; refine Htt.out.mono ?_; rintro e' w16 ⟨rfl, rfl⟩)
                        clear hHeld
                        refine hK.out _ _ (fun _ => hS15c) (fun hHeld => ?_)
                        replace hHeld := hHeld (by decide)
                        clear hK K
                        try simp only [Act.put, List.setIfInBounds_toArray, List.set_cons_zero, List.set_cons_succ]
                        refine wpHz_takenZ 52 154 ?v107 (by kernel_rfl) (by kernel_rfl) (by kernel_rfl) (by kernel_rfl) (Nat.le_of_ble_eq_true (by kernel_rfl)) (fun _ _ _ h => h) (by rfl) ?hy107 (by assumption) ?rest107
                        case hy107 => intro w hSw; (try dsimp only at hSw); simp only [List.getElem?_toArray, List.getElem?_cons_zero, List.getElem?_cons_succ]; go_simp; (try with_reducible rfl)
                        try simp only [Act.put, List.setIfInBounds_toArray, List.set_cons_zero, List.set_cons_succ]
                        refine wpHz_takenZ 53 155 ?v108 (by kernel_rfl) (by kernel_rfl) (by kernel_rfl) (by kernel_rfl) (Nat.le_of_ble_eq_true (by kernel_rfl)) (fun _ _ _ h => h) (by rfl) ?hy108 (by assumption) ?rest108
                        case hy108 => intro w hSw; (try dsimp only at hSw); simp only [List.getElem?_toArray, List.getElem?_cons_zero, List.getElem?_cons_succ]; go_simp; (try with_reducible rfl)
                        try simp only [Act.put, List.setIfInBounds_toArray, List.set_cons_zero, List.set_cons_succ]
                        refine wpHz_done (by kernel_rfl) ?_ _
                        have q2c := hS15c.2.1
                        clear hS15c hS0 hHeld HsC Htt HSame2 HdnH Hcl HrsA
                        clear Hf4 Hpl
                        go_wp2
                        refine ⟨⟨k + 1, E, q2, _, by omega, hEy, vi (by omega), rfl, rfl, rfl, ?_, HT2.out, Sat.perm (As := [_, _, _, _, _, _, _, _, _]) HS15.out [6] [_] rfl (by simp)⟩, by simp [intOf] <;> omega⟩
                        unfold Hid
                        rw [Bool.eq_iff_iff]
                        simp
          · have HSame2 : Hid (∀ x, x = .slice (if rocap = q.hist.length then roo else Option.map (fun x => x.add q.hist.length) roo) (q2.hist.length - q.hist.length) (rocap - q.hist.length) → Calls Try.prog 34 #[.slice xo nw.length xap, x] w12.drew fun e' w' => e' = .returned (.bool true) ∧ w' = w12.drew) := HSame
            clear HSame
            cases hdn : q2.done
            · as_aux_lemma =>
                have Hhdn := Lib.hid hdn
                rw [hdn] at f2 HdnH
                subst f2
                clear hdn
                have hS0 : w12.drew.cell? ⟨pr, 4, none⟩ = some (.int .i64 (re : Nat)) ∧ w12.drew.cell? ⟨pr, 2, none⟩ = some (.slice roo q2.hist.length rocap) ∧ w12.drew.cell? ⟨pr, 5, none⟩ = some (.bool false) := ⟨p4, p2, p5⟩
                clear p4 p2 p5
                refine wp_region_hz (z := 1000) (S := fun w' => w'.cell? ⟨pr, 4, none⟩ = some (.int .i64 (re : Nat)) ∧ w'.cell? ⟨pr, 2, none⟩ = some (.slice roo q2.hist.length rocap) ∧ w'.cell? ⟨pr, 5, none⟩ = some (.bool false)) (by kernel_rfl) hS0 (fun hHeld => ?_)
                refine wpHz_takenZ 0 102 ?v109 (by kernel_rfl) (by kernel_rfl) (by kernel_rfl) (by kernel_rfl) (Nat.le_of_ble_eq_true (by kernel_rfl)) (fun _ _ _ h => h) (by rfl) ?hy109 (by assumption) ?rest109
                case hy109 => intro w hSw; (try dsimp only at hSw); simp only [List.getElem?_toArray, List.getElem?_cons_zero, List.getElem?_cons_succ]; go_simp; (try with_reducible rfl)
                try simp only [Act.put, List.setIfInBounds_toArray, List.set_cons_zero, List.set_cons_succ]
                refine wpHz_takenZ 1 103 ?v110 (by kernel_rfl) (by kernel_rfl) (by kernel_rfl) (by kernel_rfl) (Nat.le_of_ble_eq_true (by kernel_rfl)) (fun _ _ _ h => h) (by rfl) ?hy110 (by assumption) ?rest110
                case hy110 => intro w hSw; (try dsimp only at hSw); simp only [List.getElem?_toArray, List.getElem?_cons_zero, List.getElem?_cons_succ]; go_simp; (try with_reducible rfl)
                try simp only [Act.put, List.setIfInBounds_toArray, List.set_cons_zero, List.set_cons_succ]
                refine wpHz_takenZ 2 104 ?v111 (by kernel_rfl) (by kernel_rfl) (by kernel_rfl) (by kernel_rfl) (Nat.le_of_ble_eq_true (by kernel_rfl)) (fun _ _ _ h => h) (by rfl) ?hy111 (by assumption) ?rest111
                case hy111 => intro w hSw; (try dsimp only at hSw); simp only [List.getElem?_toArray, List.getElem?_cons_zero, List.getElem?_cons_succ]; go_simp; (try with_reducible rfl)
                try simp only [Act.put, List.setIfInBounds_toArray, List.set_cons_zero, List.set_cons_succ]
                refine wpHz_takenZ 3 105 ?v112 (by kernel_rfl) (by kernel_rfl) (by kernel_rfl) (by kernel_rfl) (Nat.le_of_ble_eq_true (by kernel_rfl)) (fun _ _ _ h => h) (by rfl) ?hy112 (by assumption) ?rest112
                case hy112 => intro w hSw; (try dsimp only at hSw); simp only [List.getElem?_toArray, List.getElem?_cons_zero, List.getElem?_cons_succ]; go_simp; (try with_reducible rfl)
                try simp only [Act.put, List.setIfInBounds_toArray, List.set_cons_zero, List.set_cons_succ]
                refine wpHz_takenZ 4 106 ?v113 (by kernel_rfl) (by kernel_rfl) (by kernel_rfl) (by kernel_rfl) (Nat.le_of_ble_eq_true (by kernel_rfl)) (fun _ _ _ h => h) (by rfl) ?hy113 (by assumption) ?rest113
                case hy113 => intro w hSw; (try dsimp only at hSw); simp only [List.getElem?_toArray, List.getElem?_cons_zero, List.getElem?_cons_succ]; go_simp; (try with_reducible rfl)
                try simp only [Act.put, List.setIfInBounds_toArray, List.set_cons_zero, List.set_cons_succ]
                refine wpHz_one 5 (by kernel_rfl) (by rfl) (fun K hK => ?_)
                simp only [List.getElem?_toArray, List.getElem?_cons_zero, List.getElem?_cons_succ]
                go_wp2_with (go_at_call 39; refine Hcl.out.mono ?_; rintro e' w13 ⟨rfl, rfl⟩)
                clear hHeld
                refine hK.out _ _ (fun _ => hS0) (fun hHeld => ?_)
                replace hHeld := hHeld (by decide)
                clear hK K
                try simp only [Act.put, List.setIfInBounds_toArray, List.set_cons_zero, List.set_cons_succ]
                refine wpHz_takenZ 6 108 ?v115 (by kernel_rfl) (by kernel_rfl) (by kernel_rfl) (by kernel_rfl) (Nat.le_of_ble_eq_true (by kernel_rfl)) (fun _ _ _ h => h) (by rfl) ?hy115 (by assumption) ?rest115
                case hy115 => intro w hSw; (try dsimp only at hSw); simp only [List.getElem?_toArray, List.getElem?_cons_zero, List.getElem?_cons_succ]; go_simp; (try with_reducible rfl)
                try simp only [Act.put, List.setIfInBounds_toArray, List.set_cons_zero, List.set_cons_succ]
                refine wpHz_takenZ 7 109 ?v116 (by kernel_rfl) (by kernel_rfl) (by kernel_rfl) (by kernel_rfl) (Nat.le_of_ble_eq_true (by kernel_rfl)) (fun _ _ _ h => h) (by rfl) ?hy116 (by assumption) ?rest116
                case hy116 => intro w hSw; (try dsimp only at hSw); simp only [List.getElem?_toArray, List.getElem?_cons_zero, List.getElem?_cons_succ]; go_simp; (try with_reducible rfl)
                try simp only [Act.put, List.setIfInBounds_toArray, List.set_cons_zero, List.set_cons_succ]
                refine wpHz_takenZ 8 110 ?v117 (by kernel_rfl) (by kernel_rfl) (by kernel_rfl) (by kernel_rfl) (Nat.le_of_ble_eq_true (by kernel_rfl)) (fun _ _ _ h => h) (by rfl) ?hy117 (by assumption) ?rest117
                case hy117 => intro w hSw; (try dsimp only at hSw); simp only [List.getElem?_toArray, List.getElem?_cons_zero, List.getElem?_cons_succ]; go_simp; (try with_reducible rfl)
                try simp only [Act.put, List.setIfInBounds_toArray, List.set_cons_zero, List.set_cons_succ]
                refine wpHz_takenZ 9 111 ?v118 (by kernel_rfl) (by kernel_rfl) (by kernel_rfl) (by kernel_rfl) (Nat.le_of_ble_eq_true (by kernel_rfl)) (fun _ _ _ h => h) (by rfl) ?hy118 (by assumption) ?rest118
                case hy118 => intro w hSw; (try dsimp only at hSw); simp only [List.getElem?_toArray, List.getElem?_cons_zero, List.getElem?_cons_succ]; go_simp; (try with_reducible rfl)
                try simp only [Act.put, List.setIfInBounds_toArray, List.set_cons_zero, List.set_cons_succ]
                refine wpHz_takenZ 10 112 ?v119 (by kernel_rfl) (by kernel_rfl) (by kernel_rfl) (by kernel_rfl) (Nat.le_of_ble_eq_true (by kernel_rfl)) (fun _ _ _ h => h) (by rfl) ?hy119 (by assumption) ?rest119
                case hy119 => intro w hSw; (try dsimp only at hSw); simp only [List.getElem?_toArray, List.getElem?_cons_zero, List.getElem?_cons_succ]; go_simp; (try with_reducible rfl)
                try simp only [Act.put, List.setIfInBounds_toArray, List.set_cons_zero, List.set_cons_succ]
                refine wpHz_takenZ 11 113 ?v120 (by kernel_rfl) (by kernel_rfl) (by kernel_rfl) (by kernel_rfl) (Nat.le_of_ble_eq_true (by kernel_rfl)) (fun _ _ _ h => h) (by rfl) ?hy120 (by assumption) ?rest120
                case hy120 => intro w hSw; (try dsimp only at hSw); simp only [List.getElem?_toArray, List.getElem?_cons_zero, List.getElem?_cons_succ]; go_simp; (try with_reducible rfl)
                try simp only [Act.put, List.setIfInBounds_toArray, List.set_cons_zero, List.set_cons_succ]
                refine wpHz_takenZ 12 114 ?v121 (by kernel_rfl) (by kernel_rfl) (by kernel_rfl) (by kernel_rfl) (Nat.le_of_ble_eq_true (by kernel_rfl)) (fun _ _ _ h => h) (by rfl) ?hy121 (by assumption) ?rest121
                case hy121 => intro w hSw; (try dsimp only at hSw); simp only [List.getElem?_toArray, List.getElem?_cons_zero, List.getElem?_cons_succ]; go_simp; (try with_reducible rfl)
                try simp only [Act.put, List.setIfInBounds_toArray, List.set_cons_zero, List.set_cons_succ]
                refine wpHz_takenZ 13 115 ?v122 (by kernel_rfl) (by kernel_rfl) (by kernel_rfl) (by kernel_rfl) (Nat.le_of_ble_eq_true (by kernel_rfl)) (fun _ _ _ h => h) (by rfl) ?hy122 (by assumption) ?rest122
                case hy122 => intro w hSw; (try dsimp only at hSw); simp only [List.getElem?_toArray, List.getElem?_cons_zero, List.getElem?_cons_succ]; go_simp; (try with_reducible rfl)
                try simp only [Act.put, List.setIfInBounds_toArray, List.set_cons_zero, List.set_cons_succ]
                refine wpHz_takenZ 14 116 ?v123 (by kernel_rfl) (by kernel_rfl) (by kernel_rfl) (by kernel_rfl) (Nat.le_of_ble_eq_true (by kernel_rfl)) (fun _ _ _ h => h) (by rfl) ?hy123 (by assumption) ?rest123
                case hy123 => intro w hSw; (try dsimp only at hSw); simp only [List.getElem?_toArray, List.getElem?_cons_zero, List.getElem?_cons_succ]; go_simp; (try with_reducible rfl)
                try simp only [Act.put, List.setIfInBounds_toArray, List.set_cons_zero, List.set_cons_succ]
                refine wpHz_takenZ 15 117 ?v124 (by kernel_rfl) (by kernel_rfl) (by kernel_rfl) (by kernel_rfl) (Nat.le_of_ble_eq_true (by kernel_rfl)) (fun _ _ _ h => h) (by rfl) ?hy124 (by assumption) ?rest124
                case hy124 => intro w hSw; (try dsimp only at hSw); simp only [List.getElem?_toArray, List.getElem?_cons_zero, List.getElem?_cons_succ]; go_simp; (try with_reducible rfl)
                try simp only [Act.put, List.setIfInBounds_toArray, List.set_cons_zero, List.set_cons_succ]
                refine wpHz_takenZ 16 118 ?v125 (by kernel_rfl) (by kernel_rfl) (by kernel_rfl) (by kernel_rfl) (Nat.le_of_ble_eq_true (by kernel_rfl)) (fun _ _ _ h => h) (by rfl) ?hy125 (by assumption) ?rest125
                case hy125 => intro w hSw; (try dsimp only at hSw); simp only [List.getElem?_toArray, List.getElem?_cons_zero, List.getElem?_cons_succ]; go_simp; (try with_reducible rfl)
                try simp only [Act.put, List.setIfInBounds_toArray, List.set_cons_zero, List.set_cons_succ]
                refine wpHz_takenZ 17 119 ?v126 (by kernel_rfl) (by kernel_rfl) (by kernel_rfl) (by kernel_rfl) (Nat.le_of_ble_eq_true (by kernel_rfl)) (fun _ _ _ h => h) (by rfl) ?hy126 (by assumption) ?rest126
                case hy126 => intro w hSw; (try dsimp only at hSw); simp only [List.getElem?_toArray, List.getElem?_cons_zero, List.getElem?_cons_succ]; go_simp; (try with_reducible rfl)
                try simp only [Act.put, List.setIfInBounds_toArray, List.set_cons_zero, List.set_cons_succ]
                refine wpHz_takenZ 18 120 ?v127 (by kernel_rfl) (by kernel_rfl) (by kernel_rfl) (by kernel_rfl) (Nat.le_of_ble_eq_true (by kernel_rfl)) (fun _ _ _ h => h) (by rfl) ?hy127 (by assumption) ?rest127
                case hy127 => intro w hSw; (try dsimp only at hSw); simp only [List.getElem?_toArray, List.getElem?_cons_zero, List.getElem?_cons_succ]; go_simp; (try with_reducible rfl)
                try simp only [Act.put, List.setIfInBounds_toArray, List.set_cons_zero, List.set_cons_succ]
                refine wpHz_takenZ 19 121 ?v128 (by kernel_rfl) (by kernel_rfl) (by kernel_rfl) (by kernel_rfl) (Nat.le_of_ble_eq_true (by kernel_rfl)) (fun _ _ _ h => h) (by rfl) ?hy128 (by assumption) ?rest128
                case hy128 => intro w hSw; (try dsimp only at hSw); simp only [List.getElem?_toArray, List.getElem?_cons_zero, List.getElem?_cons_succ]; go_simp; (try with_reducible rfl)
                try simp only [Act.put, List.setIfInBounds_toArray, List.set_cons_zero, List.set_cons_succ]
                refine wpHz_takenZ 20 122 ?v129 (by kernel_rfl) (by kernel_rfl) (by kernel_rfl) (by kernel_rfl) (Nat.le_of_ble_eq_true (by kernel_rfl)) (fun _ _ _ h => h) (by rfl) ?hy129 (by assumption) ?rest129
                case hy129 => intro w hSw; (try dsimp only at hSw); simp only [List.getElem?_toArray, List.getElem?_cons_zero, List.getElem?_cons_succ]; go_simp; (try with_reducible rfl)
                try simp only [Act.put, List.setIfInBounds_toArray, List.set_cons_zero, List.set_cons_succ]
                refine wpHz_takenZ 21 123 ?v130 (by kernel_rfl) (by kernel_rfl) (by kernel_rfl) (by kernel_rfl) (Nat.le_of_ble_eq_true (by kernel_rfl)) (fun _ _ _ h => h) (by rfl) ?hy130 (by assumption) ?rest130
                case hy130 => intro w hSw; (try dsimp only at hSw); simp only [List.getElem?_toArray, List.getElem?_cons_zero, List.getElem?_cons_succ]; go_simp; (try with_reducible rfl)
                try simp only [Act.put, List.setIfInBounds_toArray, List.set_cons_zero, List.set_cons_succ]
                refine wpHz_takenZ 22 124 ?v131 (by kernel_rfl) (by kernel_rfl) (by kernel_rfl) (by kernel_rfl) (Nat.le_of_ble_eq_true (by kernel_rfl)) (fun _ _ _ h => h) (by rfl) ?hy131 (by assumption) ?rest131
                case hy131 => intro w hSw; (try dsimp only at hSw); simp only [List.getElem?_toArray, List.getElem?_cons_zero, List.getElem?_cons_succ]; go_simp; (try with_reducible rfl)
                try simp only [Act.put, List.setIfInBounds_toArray, List.set_cons_zero, List.set_cons_succ]
                refine wpHz_takenZ 23 125 ?v132 (by kernel_rfl) (by kernel_rfl) (by kernel_rfl) (by kernel_rfl) (Nat.le_of_ble_eq_true (by kernel_rfl)) (fun _ _ _ h => h) (by rfl) ?hy132 (by assumption) ?rest132
                case hy132 => intro w hSw; (try dsimp only at hSw); simp only [List.getElem?_toArray, List.getElem?_cons_zero, List.getElem?_cons_succ]; go_simp; (try with_reducible rfl)
                try simp only [Act.put, List.setIfInBounds_toArray, List.set_cons_zero, List.set_cons_succ]
                as_aux_lemma =>
                  refine wpHz_one 24 (by kernel_rfl) (by rfl) (fun K hK => ?_)
                  simp only [List.getElem?_toArray, List.getElem?_cons_zero, List.getElem?_cons_succ]
                  go_wp2_with (go_at_call 34; refine (HSame2.out _ (by first | (rw [if_neg hrc]; done) | (rw [if_pos hrc, hrc, Nat.sub_self]; done) | (simp [hrc]; done))).mono ?_; rintro e' w13 ⟨rfl, rfl⟩)
                  clear hHeld
                  refine hK.out _ _ (fun _ => hS0) (fun hHeld => ?_)
                  replace hHeld := hHeld (by decide)
                  clear hK K
                  try simp only [Act.put, List.setIfInBounds_toArray, List.set_cons_zero, List.set_cons_succ]
                  refine wpHz_takenZ 25 127 ?v134 (by kernel_rfl) (by kernel_rfl) (by kernel_rfl) (by kernel_rfl) (Nat.le_of_ble_eq_true (by kernel_rfl)) (fun _ _ _ h => h) (by rfl) ?hy134 (by assumption) ?rest134
                  case hy134 => intro w hSw; (try dsimp only at hSw); simp only [List.getElem?_toArray, List.getElem?_cons_zero, List.getElem?_cons_succ]; go_simp; (try with_reducible rfl)
                  try simp only [Act.put, List.setIfInBounds_toArray, List.set_cons_zero, List.set_cons_succ]
                  refine wpHz_takenZ 26 128 ?v135 (by kernel_rfl) (by kernel_rfl) (by kernel_rfl) (by kernel_rfl) (Nat.le_of_ble_eq_true (by kernel_rfl)) (fun _ _ _ h => h) (by rfl) ?hy135 (by assumption) ?rest135
                  case hy135 => intro w hSw; (try dsimp only at hSw); simp only [List.getElem?_toArray, List.getElem?_cons_zero, List.getElem?_cons_succ]; go_simp; (try with_reducible rfl)
                  try simp only [Act.put, List.setIfInBounds_toArray, List.set_cons_zero, List.set_cons_succ]
                  refine wpHz_takenZ 27 129 ?v136 (by kernel_rfl) (by kernel_rfl) (by kernel_rfl) (by kernel_rfl) (Nat.le_of_ble_eq_true (by kernel_rfl)) (fun _ _ _ h => h) (by rfl) ?hy136 (by assumption) ?rest136
                  case hy136 => intro w hSw; (try dsimp only at hSw); simp only [List.getElem?_toArray, List.getElem?_cons_zero, List.getElem?_cons_succ]; go_simp; (try with_reducible rfl)
                  try simp only [Act.put, List.setIfInBounds_toArray, List.set_cons_zero, List.set_cons_succ]
                  refine wpHz_takenZ 28 130 ?v137 (by kernel_rfl) (by kernel_rfl) (by kernel_rfl) (by kernel_rfl) (Nat.le_of_ble_eq_true (by kernel_rfl)) (fun _ _ _ h => h) (by rfl) ?hy137 (by assumption) ?rest137
                  case hy137 => intro w hSw; (try dsimp only at hSw); simp only [List.getElem?_toArray, List.getElem?_cons_zero, List.getElem?_cons_succ]; go_simp; (try with_reducible rfl)
                  try simp only [Act.put, List.setIfInBounds_toArray, List.set_cons_zero, List.set_cons_succ]
                  refine wpHz_takenZ 30 132 ?v138 (by kernel_rfl) (by kernel_rfl) (by kernel_rfl) (by kernel_rfl) (Nat.le_of_ble_eq_true (by kernel_rfl)) (fun _ _ _ h => h) (by rfl) ?hy138 (by assumption) ?rest138
                  case hy138 => intro w hSw; (try dsimp only at hSw); simp only [List.getElem?_toArray, List.getElem?_cons_zero, List.getElem?_cons_succ]; go_simp; (try with_reducible rfl)
                  try simp only [Act.put, List.setIfInBounds_toArray, List.set_cons_zero, List.set_cons_succ]
                  refine wpHz_takenZ 31 133 ?v139 (by kernel_rfl) (by kernel_rfl) (by kernel_rfl) (by kernel_rfl) (Nat.le_of_ble_eq_true (by kernel_rfl)) (fun _ _ _ h => h) (by rfl) ?hy139 (by assumption) ?rest139
                  case hy139 => intro w hSw; (try dsimp only at hSw); simp only [List.getElem?_toArray, List.getElem?_cons_zero, List.getElem?_cons_succ]; go_simp; (try with_reducible rfl)
                  try simp only [Act.put, List.setIfInBounds_toArray, List.set_cons_zero, List.set_cons_succ]
                  refine wpHz_takenZ 32 134 ?v140 (by kernel_rfl) (by kernel_rfl) (by kernel_rfl) (by kernel_rfl) (Nat.le_of_ble_eq_true (by kernel_rfl)) (fun _ _ _ h => h) (by rfl) ?hy140 (by assumption) ?rest140
                  case hy140 => intro w hSw; (try dsimp only at hSw); simp only [List.getElem?_toArray, List.getElem?_cons_zero, List.getElem?_cons_succ]; go_simp; (try with_reducible rfl)
                  try simp only [Act.put, List.setIfInBounds_toArray, List.set_cons_zero, List.set_cons_succ]
                  refine wpHz_takenZ 33 135 ?v141 (by kernel_rfl) (by kernel_rfl) (by kernel_rfl) (by kernel_rfl) (Nat.le_of_ble_eq_true (by kernel_rfl)) (fun _ _ _ h => h) (by rfl) ?hy141 (by assumption) ?rest141
                  case hy141 => intro w hSw; (try dsimp only at hSw); simp only [List.getElem?_toArray, List.getElem?_cons_zero, List.getElem?_cons_succ]; go_simp; (try with_reducible rfl)
                  try simp only [Act.put, List.setIfInBounds_toArray, List.set_cons_zero, List.set_cons_succ]
                  as_aux_lemma =>
                    refine wpHz_one 29 (by kernel_rfl) (by rfl) (fun K hK => ?_)
                    simp only [List.getElem?_toArray, List.getElem?_cons_zero, List.getElem?_cons_succ]
                    go_wp2_with (go_at_call 35; refine HdnH.out.mono ?_; rintro e' w13 ⟨rfl, rfl⟩)
                    clear hHeld
                    refine hK.out _ _ (fun _ => hS0) (fun hHeld => ?_)
                    replace hHeld := hHeld (by decide)
                    clear hK K
                    try simp only [Act.put, List.setIfInBounds_toArray, List.set_cons_zero, List.set_cons_succ]
                    refine wpHz_takenZ 34 136 ?v143 (by kernel_rfl) (by kernel_rfl) (by kernel_rfl) (by kernel_rfl) (Nat.le_of_ble_eq_true (by kernel_rfl)) (fun _ _ _ h => h) (by rfl) ?hy143 (by assumption) ?rest143
                    case hy143 => intro w hSw; (try dsimp only at hSw); simp only [List.getElem?_toArray, List.getElem?_cons_zero, List.getElem?_cons_succ]; go_simp; (try with_reducible rfl)
                    try simp only [Act.put, List.setIfInBounds_toArray, List.set_cons_zero, List.set_cons_succ]
                    refine wpHz_takenZ 35 137 ?v144 (by kernel_rfl) (by kernel_rfl) (by kernel_rfl) (by kernel_rfl) (Nat.le_of_ble_eq_true (by kernel_rfl)) (fun _ _ _ h => h) (by rfl) ?hy144 (by assumption) ?rest144
                    case hy144 => intro w hSw; (try dsimp only at hSw); simp only [List.getElem?_toArray, List.getElem?_cons_zero, List.getElem?_cons_succ]; go_simp; (try with_reducible rfl)
                    try simp only [Act.put, List.setIfInBounds_toArray, List.set_cons_zero, List.set_cons_succ]
                    refine wpHz_takenZ 36 138 ?v145 (by kernel_rfl) (by kernel_rfl) (by kernel_rfl) (by kernel_rfl) (Nat.le_of_ble_eq_true (by kernel_rfl)) (fun _ _ _ h => h) (by rfl) ?hy145 (by assumption) ?rest145
                    case hy145 => intro w hSw; (try dsimp only at hSw); simp only [List.getElem?_toArray, List.getElem?_cons_zero, List.getElem?_cons_succ]; go_simp; (try with_reducible rfl)
                    try simp only [Act.put, List.setIfInBounds_toArray, List.set_cons_zero, List.set_cons_succ]
                    refine wpHz_takenZ 37 139 ?v146 (by kernel_rfl) (by kernel_rfl) (by kernel_rfl) (by kernel_rfl) (Nat.le_of_ble_eq_true (by kernel_rfl)) (fun _ _ _ h => h) (by rfl) ?hy146 (by assumption) ?rest146
                    case hy146 => intro w hSw; (try dsimp only at hSw); simp only [List.getElem?_toArray, List.getElem?_cons_zero, List.getElem?_cons_succ]; go_simp; (try with_reducible rfl)
                    try simp only [Act.put, List.setIfInBounds_toArray, List.set_cons_zero, List.set_cons_succ]
                    refine wpHz_takenZ 39 141 ?v147 (by kernel_rfl) (by kernel_rfl) (by kernel_rfl) (by kernel_rfl) (Nat.le_of_ble_eq_true (by kernel_rfl)) (fun _ _ _ h => h) (by rfl) ?hy147 (by assumption) ?rest147
                    case hy147 => intro w hSw; (try dsimp only at hSw); simp only [List.getElem?_toArray, List.getElem?_cons_zero, List.getElem?_cons_succ]; go_simp; (try with_reducible rfl)
                    try simp only [Act.put, List.setIfInBounds_toArray, List.set_cons_zero, List.set_cons_succ]
                    as_aux_lemma =>
                      refine wpHz_one 38 (by kernel_rfl) (by rfl) (fun K hK => ?_)
                      simp only [List.getElem?_toArray, List.getElem?_cons_zero, List.getElem?_cons_succ]
                      go_wp2_with (go_at_call 40; refine HrsA.out.mono ?_; rintro e' w14 ⟨v1, rs1, rfl, hr1, hS14⟩; obtain ⟨_, s1, s2, rfl, -, -, -, -⟩ := hS14.at_ 0 _ rfl)
                      have hrb := rest_nil hr1 Hhdn.out
                      have hS14b := Sat.perm (As := [_, _, _, _, _, _, _, _]) hS14 [2, 3, 4, 5, 0, 1, 6, 7] [_, _, _, _, _, _, _, _] rfl (by simp)
                      have c14 := run_cells (Rs := _ :: _ :: _ :: _ :: Rs) hS14b
                      clear hHeld
                      refine hK.out _ _ (fun _ => ⟨c14.2.2.2.1, c14.2.1, c14.2.2.2.2.1⟩) (fun hHeld => ?_)
                      replace hHeld := hHeld (by decide)
                      clear hK K
                      try simp only [Act.put, List.setIfInBounds_toArray, List.set_cons_zero, List.set_cons_succ]
                      have Hry := Lib.hid (rest_no (Rs := _ :: _ :: _ :: _ :: Rs) (run_shut hS14b))
                      have HsC := same_d (ys := []) hS14.sl_read (SlR.nil none 0 (by decide)); rw [show (rs1 == []) = true by rw [hrb]; rfl] at HsC; have HsC := Lib.hid HsC; have Htt := Lib.hid (total_all (Sat.front hS14 1 _ rfl)); have HS15 := Lib.hid hS14; have q2c := c14.2.1; have hS15c : w14.cell? ⟨pr, 4, none⟩ = some (.int .i64 (re : Nat)) ∧ w14.cell? ⟨pr, 2, none⟩ = some (.slice roo q2.hist.length rocap) ∧ w14.cell? ⟨pr, 5, none⟩ = some (.bool false) := ⟨c14.2.2.2.1, c14.2.1, c14.2.2.2.2.1⟩; clear hS14 hS14b c14 hrb hr1
                      refine wpHz_one 40 (by kernel_rfl) (by rfl) (fun K hK => ?_)
                      simp only [List.getElem?_toArray, List.getElem?_cons_zero, List.getElem?_cons_succ]
                      go_wp2_with (go_at_call 41; refine Hry.out.mono ?_; rintro e' w15 ⟨rfl, rfl⟩)
                      clear hHeld
                      refine hK.out _ _ (fun _ => hS15c) (fun hHeld => ?_)
                      replace hHeld := hHeld (by decide)
                      clear hK K
                      try simp only [Act.put, List.setIfInBounds_toArray, List.set_cons_zero, List.set_cons_succ]
                      clear Hry
                      as_aux_lemma =>
                        refine wpHz_one 41 (by kernel_rfl) (by rfl) (fun K hK => ?_)
                        simp only [List.getElem?_toArray, List.getElem?_cons_zero, List.getElem?_cons_succ]
                        go_wp2_with (go_at_call 34; refine HsC.out.mono ?_; rintro e' w16 ⟨rfl, rfl⟩)
                        clear hHeld
                        refine hK.out _ _ (fun _ => hS15c) (fun hHeld => ?_)
                        replace hHeld := hHeld (by decide)
                        clear hK K
                        try simp only [Act.put, List.setIfInBounds_toArray, List.set_cons_zero, List.set_cons_succ]
                        refine wpHz_takenZ 42 144 ?v151 (by kernel_rfl) (by kernel_rfl) (by kernel_rfl) (by kernel_rfl) (Nat.le_of_ble_eq_true (by kernel_rfl)) (fun _ _ _ h => h) (by rfl) ?hy151 (by assumption) ?rest151
                        case hy151 => intro w hSw; (try dsimp only at hSw); simp only [List.getElem?_toArray, List.getElem?_cons_zero, List.getElem?_cons_succ]; go_simp; (try with_reducible rfl)
                        try simp only [Act.put, List.setIfInBounds_toArray, List.set_cons_zero, List.set_cons_succ]
                        refine wpHz_takenZ 43 145 ?v152 (by kernel_rfl) (by kernel_rfl) (by kernel_rfl) (by kernel_rfl) (Nat.le_of_ble_eq_true (by kernel_rfl)) (fun _ _ _ h => h) (by rfl) ?hy152 (by assumption) ?rest152
                        case hy152 => intro w hSw; (try dsimp only at hSw); simp only [List.getElem?_toArray, List.getElem?_cons_zero, List.getElem?_cons_succ]; go_simp; (try with_reducible rfl)
                        try simp only [Act.put, List.setIfInBounds_toArray, List.set_cons_zero, List.set_cons_succ]
                        refine wpHz_takenZ 44 146 ?v153 (by kernel_rfl) (by kernel_rfl) (by kernel_rfl) (by kernel_rfl) (Nat.le_of_ble_eq_true (by kernel_rfl)) (fun _ _ _ h => h) (by rfl) ?hy153 (by assumption) ?rest153
                        case hy153 => intro w hSw; (try dsimp only at hSw); simp only [List.getElem?_toArray, List.getElem?_cons_zero, List.getElem?_cons_succ]; go_simp; (try with_reducible rfl)
                        try simp only [Act.put, List.setIfInBounds_toArray, List.set_cons_zero, List.set_cons_succ]
                        refine wpHz_takenZ 45 147 ?v154 (by kernel_rfl) (by kernel_rfl) (by kernel_rfl) (by kernel_rfl) (Nat.le_of_ble_eq_true (by kernel_rfl)) (fun _ _ _ h => h) (by rfl) ?hy154 (by assumption) ?rest154
                        case hy154 => intro w hSw; (try dsimp only at hSw); simp only [List.getElem?_toArray, List.getElem?_cons_zero, List.getElem?_cons_succ]; go_simp; (try with_reducible rfl)
                        try simp only [Act.put, List.setIfInBounds_toArray, List.set_cons_zero, List.set_cons_succ]
                        refine wpHz_takenZ 47 149 ?v155 (by kernel_rfl) (by kernel_rfl) (by kernel_rfl) (by kernel_rfl) (Nat.le_of_ble_eq_true (by kernel_rfl)) (fun _ _ _ h => h) (by rfl) ?hy155 (by assumption) ?rest155
                        case hy155 => intro w hSw; (try dsimp only at hSw); simp only [List.getElem?_toArray, List.getElem?_cons_zero, List.getElem?_cons_succ]; go_simp; (try with_reducible rfl)
                        try simp only [Act.put, List.setIfInBounds_toArray, List.set_cons_zero, List.set_cons_succ]
                        refine wpHz_takenZ 48 150 ?v156 (by kernel_rfl) (by kernel_rfl) (by kernel_rfl) (by kernel_rfl) (Nat.le_of_ble_eq_true (by kernel_rfl)) (fun _ _ _ h => h) (by rfl) ?hy156 (by assumption) ?rest156
                        case hy156 => intro w hSw; (try dsimp only at hSw); simp only [List.getElem?_toArray, List.getElem?_cons_zero, List.getElem?_cons_succ]; go_simp; (try with_reducible rfl)
                        try simp only [Act.put, List.setIfInBounds_toArray, List.set_cons_zero, List.set_cons_succ]
                        refine wpHz_takenZ 49 151 ?v157 (by kernel_rfl) (by kernel_rfl) (by kernel_rfl) (by kernel_rfl) (Nat.le_of_ble_eq_true (by kernel_rfl)) (fun _ _ _ h => h) (by rfl) ?hy157 (by assumption) ?rest157
                        case hy157 => intro w hSw; (try dsimp only at hSw); simp only [List.getElem?_toArray, List.getElem?_cons_zero, List.getElem?_cons_succ]; go_simp; (try with_reducible rfl)
                        try simp only [Act.put, List.setIfInBounds_toArray, List.set_cons_zero, List.set_cons_succ]
                        refine wpHz_takenZ 50 152 ?v158 (by kernel_rfl) (by kernel_rfl) (by kernel_rfl) (by kernel_rfl) (Nat.le_of_ble_eq_true (by kernel_rfl)) (fun _ _ _ h => h) (by rfl) ?hy158 (by assumption) ?rest158
                        case hy158 => intro w hSw; (try dsimp only at hSw); simp only [List.getElem?_toArray, List.getElem?_cons_zero, List.getElem?_cons_succ]; go_simp; (try with_reducible rfl)
                        try simp only [Act.put, List.setIfInBounds_toArray, List.set_cons_zero, List.set_cons_succ]
                        refine wpHz_takenZ 51 153 ?v159 (by kernel_rfl) (by kernel_rfl) (by kernel_rfl) (by kernel_rfl) (Nat.le_of_ble_eq_true (by kernel_rfl)) (fun _ _ _ h => h) (by rfl) ?hy159 (by assumption) ?rest159
                        case hy159 => intro w hSw; (try dsimp only at hSw); simp only [List.getElem?_toArray, List.getElem?_cons_zero, List.getElem?_cons_succ]; go_simp; (try with_reducible rfl)
                        try simp only [Act.put, List.setIfInBounds_toArray, List.set_cons_zero, List.set_cons_succ]
                        refine wpHz_one 46 (by kernel_rfl) (by rfl) (fun K hK => ?_)
                        simp only [List.getElem?_toArray, List.getElem?_cons_zero, List.getElem?_cons_succ]
                        go_wp2_with (go_at_call 42; refine Htt.out.mono ?_; rintro e' w16 ⟨rfl, rfl⟩)
                        clear hHeld
                        refine hK.out _ _ (fun _ => hS15c) (fun hHeld => ?_)
                        replace hHeld := hHeld (by decide)
                        clear hK K
                        try simp only [Act.put, List.setIfInBounds_toArray, List.set_cons_zero, List.set_cons_succ]
                        refine wpHz_takenZ 52 154 ?v161 (by kernel_rfl) (by kernel_rfl) (by kernel_rfl) (by kernel_rfl) (Nat.le_of_ble_eq_true (by kernel_rfl)) (fun _ _ _ h => h) (by rfl) ?hy161 (by assumption) ?rest161
                        case hy161 => intro w hSw; (try dsimp only at hSw); simp only [List.getElem?_toArray, List.getElem?_cons_zero, List.getElem?_cons_succ]; go_simp; (try with_reducible rfl)
                        try simp only [Act.put, List.setIfInBounds_toArray, List.set_cons_zero, List.set_cons_succ]
                        refine wpHz_takenZ 53 155 ?v162 (by kernel_rfl) (by kernel_rfl) (by kernel_rfl) (by kernel_rfl) (Nat.le_of_ble_eq_true (by kernel_rfl)) (fun _ _ _ h => h) (by rfl) ?hy162 (by assumption) ?rest162
                        case hy162 => intro w hSw; (try dsimp only at hSw); simp only [List.getElem?_toArray, List.getElem?_cons_zero, List.getElem?_cons_succ]; go_simp; (try with_reducible rfl)
                        try simp only [Act.put, List.setIfInBounds_toArray, List.set_cons_zero, List.set_cons_succ]
                        refine wpHz_done (by kernel_rfl) ?_ _
                        have q2c := hS15c.2.1
                        clear hS15c hS0 hHeld HsC Htt HSame2 HdnH Hcl HrsA
                        clear Hf4 Hpl
                        go_wp2
                        refine ⟨⟨k + 1, E, q2, _, by omega, hEy, vi (by omega), rfl, rfl, rfl, ?_, HT2.out, Sat.perm (As := [_, _, _, _, _, _, _, _]) HS15.out [1] [_] rfl (by simp)⟩, by simp [intOf] <;> omega⟩
                        unfold Hid
                        rw [Bool.eq_iff_iff]
                        simp
            · as_aux_lemma =>
                have Hhdn := Lib.hid hdn
                rw [hdn] at f2 HdnH
                subst f2
                clear hdn
                have hS0 : w12.drew.cell? ⟨pr, 4, none⟩ = some (.int .i64 (re : Nat)) ∧ w12.drew.cell? ⟨pr, 2, none⟩ = some (.slice roo q2.hist.length rocap) ∧ w12.drew.cell? ⟨pr, 5, none⟩ = some (.bool true) := ⟨p4, p2, p5⟩
                clear p4 p2 p5
                refine wp_region_hz (z := 1000) (S := fun w' => w'.cell? ⟨pr, 4, none⟩ = some (.int .i64 (re : Nat)) ∧ w'.cell? ⟨pr, 2, none⟩ = some (.slice roo q2.hist.length rocap) ∧ w'.cell? ⟨pr, 5, none⟩ = some (.bool true)) (by kernel_rfl) hS0 (fun hHeld => ?_)
                refine wpHz_takenZ 0 102 ?v163 (by kernel_rfl) (by kernel_rfl) (by kernel_rfl) (by kernel_rfl) (Nat.le_of_ble_eq_true (by kernel_rfl)) (fun _ _ _ h => h) (by rfl) ?hy163 (by assumption) ?rest163
                case hy163 => intro w hSw; (try dsimp only at hSw); simp only [List.getElem?_toArray, List.getElem?_cons_zero, List.getElem?_cons_succ]; go_simp; (try with_reducible rfl)
                try simp only [Act.put, List.setIfInBounds_toArray, List.set_cons_zero, List.set_cons_succ]
                refine wpHz_takenZ 1 103 ?v164 (by kernel_rfl) (by kernel_rfl) (by kernel_rfl) (by kernel_rfl) (Nat.le_of_ble_eq_true (by kernel_rfl)) (fun _ _ _ h => h) (by rfl) ?hy164 (by assumption) ?rest164
                case hy164 => intro w hSw; (try dsimp only at hSw); simp only [List.getElem?_toArray, List.getElem?_cons_zero, List.getElem?_cons_succ]; go_simp; (try with_reducible rfl)
                try simp only [Act.put, List.setIfInBounds_toArray, List.set_cons_zero, List.set_cons_succ]
                refine wpHz_takenZ 2 104 ?v165 (by kernel_rfl) (by kernel_rfl) (by kernel_rfl) (by kernel_rfl) (Nat.le_of_ble_eq_true (by kernel_rfl)) (fun _ _ _ h => h) (by rfl) ?hy165 (by assumption) ?rest165
                case hy165 => intro w hSw; (try dsimp only at hSw); simp only [List.getElem?_toArray, List.getElem?_cons_zero, List.getElem?_cons_succ]; go_simp; (try with_reducible rfl)
                try simp only [Act.put, List.setIfInBounds_toArray, List.set_cons_zero, List.set_cons_succ]
                refine wpHz_takenZ 3 105 ?v166 (by kernel_rfl) (by kernel_rfl) (by kernel_rfl) (by kernel_rfl) (Nat.le_of_ble_eq_true (by kernel_rfl)) (fun _ _ _ h => h) (by rfl) ?hy166 (by assumption) ?rest166
                case hy166 => intro w hSw; (try dsimp only at hSw); simp only [List.getElem?_toArray, List.getElem?_cons_zero, List.getElem?_cons_succ]; go_simp; (try with_reducible rfl)
                try simp only [Act.put, List.setIfInBounds_toArray, List.set_cons_zero, List.set_cons_succ]
                refine wpHz_takenZ 4 106 ?v167 (by kernel_rfl) (by kernel_rfl) (by kernel_rfl) (by kernel_rfl) (Nat.le_of_ble_eq_true (by kernel_rfl)) (fun _ _ _ h => h) (by rfl) ?hy167 (by assumption) ?rest167
                case hy167 => intro w hSw; (try dsimp only at hSw); simp only [List.getElem?_toArray, List.getElem?_cons_zero, List.getElem?_cons_succ]; go_simp; (try with_reducible rfl)
                try simp only [Act.put, List.setIfInBounds_toArray, List.set_cons_zero, List.set_cons_succ]
                refine wpHz_one 5 (by kernel_rfl) (by rfl) (fun K hK => ?_)
                simp only [List.getElem?_toArray, List.getElem?_cons_zero, List.getElem?_cons_succ]
                go_wp2_with (go_at_call 39; refine Hcl.out.mono ?_; rintro e' w13 ⟨rfl, rfl⟩)
                clear hHeld
                refine hK.out _ _ (fun _ => hS0) (fun hHeld => ?_)
                replace hHeld := hHeld (by decide)
                clear hK K
                try simp only [Act.put, List.setIfInBounds_toArray, List.set_cons_zero, List.set_cons_succ]
                refine wpHz_takenZ 6 108 ?v169 (by kernel_rfl) (by kernel_rfl) (by kernel_rfl) (by kernel_rfl) (Nat.le_of_ble_eq_true (by kernel_rfl)) (fun _ _ _ h => h) (by rfl) ?hy169 (by assumption) ?rest169
                case hy169 => intro w hSw; (try dsimp only at hSw); simp only [List.getElem?_toArray, List.getElem?_cons_zero, List.getElem?_cons_succ]; go_simp; (try with_reducible rfl)
                try simp only [Act.put, List.setIfInBounds_toArray, List.set_cons_zero, List.set_cons_succ]
                refine wpHz_takenZ 7 109 ?v170 (by kernel_rfl) (by kernel_rfl) (by kernel_rfl) (by kernel_rfl) (Nat.le_of_ble_eq_true (by kernel_rfl)) (fun _ _ _ h => h) (by rfl) ?hy170 (by assumption) ?rest170
                case hy170 => intro w hSw; (try dsimp only at hSw); simp only [List.getElem?_toArray, List.getElem?_cons_zero, List.getElem?_cons_succ]; go_simp; (try with_reducible rfl)
                try simp only [Act.put, List.setIfInBounds_toArray, List.set_cons_zero, List.set_cons_succ]
                refine wpHz_takenZ 8 110 ?v171 (by kernel_rfl) (by kernel_rfl) (by kernel_rfl) (by kernel_rfl) (Nat.le_of_ble_eq_true (by kernel_rfl)) (fun _ _ _ h => h) (by rfl) ?hy171 (by assumption) ?rest171
                case hy171 => intro w hSw; (try dsimp only at hSw); simp only [List.getElem?_toArray, List.getElem?_cons_zero, List.getElem?_cons_succ]; go_simp; (try with_reducible rfl)
                try simp only [Act.put, List.setIfInBounds_toArray, List.set_cons_zero, List.set_cons_succ]
                refine wpHz_takenZ 9 111 ?v172 (by kernel_rfl) (by kernel_rfl) (by kernel_rfl) (by kernel_rfl) (Nat.le_of_ble_eq_true (by kernel_rfl)) (fun _ _ _ h => h) (by rfl) ?hy172 (by assumption) ?rest172
                case hy172 => intro w hSw; (try dsimp only at hSw); simp only [List.getElem?_toArray, List.getElem?_cons_zero, List.getElem?_cons_succ]; go_simp; (try with_reducible rfl)
                try simp only [Act.put, List.setIfInBounds_toArray, List.set_cons_zero, List.set_cons_succ]
                refine wpHz_takenZ 10 112 ?v173 (by kernel_rfl) (by kernel_rfl) (by kernel_rfl) (by kernel_rfl) (Nat.le_of_ble_eq_true (by kernel_rfl)) (fun _ _ _ h => h) (by rfl) ?hy173 (by assumption) ?rest173
                case hy173 => intro w hSw; (try dsimp only at hSw); simp only [List.getElem?_toArray, List.getElem?_cons_zero, List.getElem?_cons_succ]; go_simp; (try with_reducible rfl)
                try simp only [Act.put, List.setIfInBounds_toArray, List.set_cons_zero, List.set_cons_succ]
                refine wpHz_takenZ 11 113 ?v174 (by kernel_rfl) (by kernel_rfl) (by kernel_rfl) (by kernel_rfl) (Nat.le_of_ble_eq_true (by kernel_rfl)) (fun _ _ _ h => h) (by rfl) ?hy174 (by assumption) ?rest174
                case hy174 => intro w hSw; (try dsimp only at hSw); simp only [List.getElem?_toArray, List.getElem?_cons_zero, List.getElem?_cons_succ]; go_simp; (try with_reducible rfl)
                try simp only [Act.put, List.setIfInBounds_toArray, List.set_cons_zero, List.set_cons_succ]
                refine wpHz_takenZ 12 114 ?v175 (by kernel_rfl) (by kernel_rfl) (by kernel_rfl) (by kernel_rfl) (Nat.le_of_ble_eq_true (by kernel_rfl)) (fun _ _ _ h => h) (by rfl) ?hy175 (by assumption) ?rest175
                case hy175 => intro w hSw; (try dsimp only at hSw); simp only [List.getElem?_toArray, List.getElem?_cons_zero, List.getElem?_cons_succ]; go_simp; (try with_reducible rfl)
                try simp only [Act.put, List.setIfInBounds_toArray, List.set_cons_zero, List.set_cons_succ]
                refine wpHz_takenZ 13 115 ?v176 (by kernel_rfl) (by kernel_rfl) (by kernel_rfl) (by kernel_rfl) (Nat.le_of_ble_eq_true (by kernel_rfl)) (fun _ _ _ h => h) (by rfl) ?hy176 (by assumption) ?rest176
                case hy176 => intro w hSw; (try dsimp only at hSw); simp only [List.getElem?_toArray, List.getElem?_cons_zero, List.getElem?_cons_succ]; go_simp; (try with_reducible rfl)
                try simp only [Act.put, List.setIfInBounds_toArray, List.set_cons_zero, List.set_cons_succ]
                refine wpHz_takenZ 14 116 ?v177 (by kernel_rfl) (by kernel_rfl) (by kernel_rfl) (by kernel_rfl) (Nat.le_of_ble_eq_true (by kernel_rfl)) (fun _ _ _ h => h) (by rfl) ?hy177 (by assumption) ?rest177
                case hy177 => intro w hSw; (try dsimp only at hSw); simp only [List.getElem?_toArray, List.getElem?_cons_zero, List.getElem?_cons_succ]; go_simp; (try with_reducible rfl)
                try simp only [Act.put, List.setIfInBounds_toArray, List.set_cons_zero, List.set_cons_succ]
                refine wpHz_takenZ 15 117 ?v178 (by kernel_rfl) (by kernel_rfl) (by kernel_rfl) (by kernel_rfl) (Nat.le_of_ble_eq_true (by kernel_rfl)) (fun _ _ _ h => h) (by rfl) ?hy178 (by assumption) ?rest178
                case hy178 => intro w hSw; (try dsimp only at hSw); simp only [List.getElem?_toArray, List.getElem?_cons_zero, List.getElem?_cons_succ]; go_simp; (try with_reducible rfl)
                try simp only [Act.put, List.setIfInBounds_toArray, List.set_cons_zero, List.set_cons_succ]
                refine wpHz_takenZ 16 118 ?v179 (by kernel_rfl) (by kernel_rfl) (by kernel_rfl) (by kernel_rfl) (Nat.le_of_ble_eq_true (by kernel_rfl)) (fun _ _ _ h => h) (by rfl) ?hy179 (by assumption) ?rest179
                case hy179 => intro w hSw; (try dsimp only at hSw); simp only [List.getElem?_toArray, List.getElem?_cons_zero, List.getElem?_cons_succ]; go_simp; (try with_reducible rfl)
                try simp only [Act.put, List.setIfInBounds_toArray, List.set_cons_zero, List.set_cons_succ]
                refine wpHz_takenZ 17 119 ?v180 (by kernel_rfl) (by kernel_rfl) (by kernel_rfl) (by kernel_rfl) (Nat.le_of_ble_eq_true (by kernel_rfl)) (fun _ _ _ h => h) (by rfl) ?hy180 (by assumption) ?rest180
                case hy180 => intro w hSw; (try dsimp only at hSw); simp only [List.getElem?_toArray, List.getElem?_cons_zero, List.getElem?_cons_succ]; go_simp; (try with_reducible rfl)
                try simp only [Act.put, List.setIfInBounds_toArray, List.set_cons_zero, List.set_cons_succ]
                refine wpHz_takenZ 18 120 ?v181 (by kernel_rfl) (by kernel_rfl) (by kernel_rfl) (by kernel_rfl) (Nat.le_of_ble_eq_true (by kernel_rfl)) (fun _ _ _ h => h) (by rfl) ?hy181 (by assumption) ?rest181
                case hy181 => intro w hSw; (try dsimp only at hSw); simp only [List.getElem?_toArray, List.getElem?_cons_zero, List.getElem?_cons_succ]; go_simp; (try with_reducible rfl)
                try simp only [Act.put, List.setIfInBounds_toArray, List.set_cons_zero, List.set_cons_succ]
                refine wpHz_takenZ 19 121 ?v182 (by kernel_rfl) (by kernel_rfl) (by kernel_rfl) (by kernel_rfl) (Nat.le_of_ble_eq_true (by kernel_rfl)) (fun _ _ _ h => h) (by rfl) ?hy182 (by assumption) ?rest182
                case hy182 => intro w hSw; (try dsimp only at hSw); simp only [List.getElem?_toArray, List.getElem?_cons_zero, List.getElem?_cons_succ]; go_simp; (try with_reducible rfl)
                try simp only [Act.put, List.setIfInBounds_toArray, List.set_cons_zero, List.set_cons_succ]
                refine wpHz_takenZ 20 122 ?v183 (by kernel_rfl) (by kernel_rfl) (by kernel_rfl) (by kernel_rfl) (Nat.le_of_ble_eq_true (by kernel_rfl)) (fun _ _ _ h => h) (by rfl) ?hy183 (by assumption) ?rest183
                case hy183 => intro w hSw; (try dsimp only at hSw); simp only [List.getElem?_toArray, List.getElem?_cons_zero, List.getElem?_cons_succ]; go_simp; (try with_reducible rfl)
                try simp only [Act.put, List.setIfInBounds_toArray, List.set_cons_zero, List.set_cons_succ]
                refine wpHz_takenZ 21 123 ?v184 (by kernel_rfl) (by kernel_rfl) (by kernel_rfl) (by kernel_rfl) (Nat.le_of_ble_eq_true (by kernel_rfl)) (fun _ _ _ h => h) (by rfl) ?hy184 (by assumption) ?rest184
                case hy184 => intro w hSw; (try dsimp only at hSw); simp only [List.getElem?_toArray, List.getElem?_cons_zero, List.getElem?_cons_succ]; go_simp; (try with_reducible rfl)
                try simp only [Act.put, List.setIfInBounds_toArray, List.set_cons_zero, List.set_cons_succ]
                refine wpHz_takenZ 22 124 ?v185 (by kernel_rfl) (by kernel_rfl) (by kernel_rfl) (by kernel_rfl) (Nat.le_of_ble_eq_true (by kernel_rfl)) (fun _ _ _ h => h) (by rfl) ?hy185 (by assumption) ?rest185
                case hy185 => intro w hSw; (try dsimp only at hSw); simp only [List.getElem?_toArray, List.getElem?_cons_zero, List.getElem?_cons_succ]; go_simp; (try with_reducible rfl)
                try simp only [Act.put, List.setIfInBounds_toArray, List.set_cons_zero, List.set_cons_succ]
                refine wpHz_takenZ 23 125 ?v186 (by kernel_rfl) (by kernel_rfl) (by kernel_rfl) (by kernel_rfl) (Nat.le_of_ble_eq_true (by kernel_rfl)) (fun _ _ _ h => h) (by rfl) ?hy186 (by assumption) ?rest186
                case hy186 => intro w hSw; (try dsimp only at hSw); simp only [List.getElem?_toArray, List.getElem?_cons_zero, List.getElem?_cons_succ]; go_simp; (try with_reducible rfl)
                try simp only [Act.put, List.setIfInBounds_toArray, List.set_cons_zero, List.set_cons_succ]
                as_aux_lemma =>
                  refine wpHz_one 24 (by kernel_rfl) (by rfl) (fun K hK => ?_)
                  simp only [List.getElem?_toArray, List.getElem?_cons_zero, List.getElem?_cons_succ]
                  go_wp2_with (go_at_call 34; refine (HSame2.out _ (by first | (rw [if_neg hrc]; done) | (rw [if_pos hrc, hrc, Nat.sub_self]; done) | (simp [hrc]; done))).mono ?_; rintro e' w13 ⟨rfl, rfl⟩)
                  clear hHeld
                  refine hK.out _ _ (fun _ => hS0) (fun hHeld => ?_)
                  replace hHeld := hHeld (by decide)
                  clear hK K
                  try simp only [Act.put, List.setIfInBounds_toArray, List.set_cons_zero, List.set_cons_succ]
                  refine wpHz_takenZ 25 127 ?v188 (by kernel_rfl) (by kernel_rfl) (by kernel_rfl) (by kernel_rfl) (Nat.le_of_ble_eq_true (by kernel_rfl)) (fun _ _ _ h => h) (by rfl) ?hy188 (by assumption) ?rest188
                  case hy188 => intro w hSw; (try dsimp only at hSw); simp only [List.getElem?_toArray, List.getElem?_cons_zero, List.getElem?_cons_succ]; go_simp; (try with_reducible rfl)
                  try simp only [Act.put, List.setIfInBounds_toArray, List.set_cons_zero, List.set_cons_succ]
                  refine wpHz_takenZ 26 128 ?v189 (by kernel_rfl) (by kernel_rfl) (by kernel_rfl) (by kernel_rfl) (Nat.le_of_ble_eq_true (by kernel_rfl)) (fun _ _ _ h => h) (by rfl) ?hy189 (by assumption) ?rest189
                  case hy189 => intro w hSw; (try dsimp only at hSw); simp only [List.getElem?_toArray, List.getElem?_cons_zero, List.getElem?_cons_succ]; go_simp; (try with_reducible rfl)
                  try simp only [Act.put, List.setIfInBounds_toArray, List.set_cons_zero, List.set_cons_succ]
                  refine wpHz_takenZ 27 129 ?v190 (by kernel_rfl) (by kernel_rfl) (by kernel_rfl) (by kernel_rfl) (Nat.le_of_ble_eq_true (by kernel_rfl)) (fun _ _ _ h => h) (by rfl) ?hy190 (by assumption) ?rest190
                  case hy190 => intro w hSw; (try dsimp only at hSw); simp only [List.getElem?_toArray, List.getElem?_cons_zero, List.getElem?_cons_succ]; go_simp; (try with_reducible rfl)
                  try simp only [Act.put, List.setIfInBounds_toArray, List.set_cons_zero, List.set_cons_succ]
                  refine wpHz_takenZ 28 130 ?v191 (by kernel_rfl) (by kernel_rfl) (by kernel_rfl) (by kernel_rfl) (Nat.le_of_ble_eq_true (by kernel_rfl)) (fun _ _ _ h => h) (by rfl) ?hy191 (by assumption) ?rest191
                  case hy191 => intro w hSw; (try dsimp only at hSw); simp only [List.getElem?_toArray, List.getElem?_cons_zero, List.getElem?_cons_succ]; go_simp; (try with_reducible rfl)
                  try simp only [Act.put, List.setIfInBounds_toArray, List.set_cons_zero, List.set_cons_succ]
                  refine wpHz_takenZ 30 132 ?v192 (by kernel_rfl) (by kernel_rfl) (by kernel_rfl) (by kernel_rfl) (Nat.le_of_ble_eq_true (by kernel_rfl)) (fun _ _ _ h => h) (by rfl) ?hy192 (by assumption) ?rest192
                  case hy192 => intro w hSw; (try dsimp only at hSw); simp only [List.getElem?_toArray, List.getElem?_cons_zero, List.getElem?_cons_succ]; go_simp; (try with_reducible rfl)
                  try simp only [Act.put, List.setIfInBounds_toArray, List.set_cons_zero, List.set_cons_succ]
                  refine wpHz_takenZ 31 133 ?v193 (by kernel_rfl) (by kernel_rfl) (by kernel_rfl) (by kernel_rfl) (Nat.le_of_ble_eq_true (by kernel_rfl)) (fun _ _ _ h => h) (by rfl) ?hy193 (by assumption) ?rest193
                  case hy193 => intro w hSw; (try dsimp only at hSw); simp only [List.getElem?_toArray, List.getElem?_cons_zero, List.getElem?_cons_succ]; go_simp; (try with_reducible rfl)
                  try simp only [Act.put, List.setIfInBounds_toArray, List.set_cons_zero, List.set_cons_succ]
                  refine wpHz_takenZ 32 134 ?v194 (by kernel_rfl) (by kernel_rfl) (by kernel_rfl) (by kernel_rfl) (Nat.le_of_ble_eq_true (by kernel_rfl)) (fun _ _ _ h => h) (by rfl) ?hy194 (by assumption) ?rest194
                  case hy194 => intro w hSw; (try dsimp only at hSw); simp only [List.getElem?_toArray, List.getElem?_cons_zero, List.getElem?_cons_succ]; go_simp; (try with_reducible rfl)
                  try simp only [Act.put, List.setIfInBounds_toArray, List.set_cons_zero, List.set_cons_succ]
                  refine wpHz_takenZ 33 135 ?v195 (by kernel_rfl) (by kernel_rfl) (by kernel_rfl) (by kernel_rfl) (Nat.le_of_ble_eq_true (by kernel_rfl)) (fun _ _ _ h => h) (by rfl) ?hy195 (by assumption) ?rest195
                  case hy195 => intro w hSw; (try dsimp only at hSw); simp only [List.getElem?_toArray, List.getElem?_cons_zero, List.getElem?_cons_succ]; go_simp; (try with_reducible rfl)
                  try simp only [Act.put, List.setIfInBounds_toArray, List.set_cons_zero, List.set_cons_succ]
                  as_aux_lemma =>
                    refine wpHz_one 29 (by kernel_rfl) (by rfl) (fun K hK => ?_)
                    simp only [List.getElem?_toArray, List.getElem?_cons_zero, List.getElem?_cons_succ]
                    go_wp2_with (go_at_call 35; refine HdnH.out.mono ?_; rintro e' w13 ⟨rfl, rfl⟩)
                    clear hHeld
                    refine hK.out _ _ (fun _ => hS0) (fun hHeld => ?_)
                    replace hHeld := hHeld (by decide)
                    clear hK K
                    try simp only [Act.put, List.setIfInBounds_toArray, List.set_cons_zero, List.set_cons_succ]
                    refine wpHz_takenZ 34 136 ?v197 (by kernel_rfl) (by kernel_rfl) (by kernel_rfl) (by kernel_rfl) (Nat.le_of_ble_eq_true (by kernel_rfl)) (fun _ _ _ h => h) (by rfl) ?hy197 (by assumption) ?rest197
                    case hy197 => intro w hSw; (try dsimp only at hSw); simp only [List.getElem?_toArray, List.getElem?_cons_zero, List.getElem?_cons_succ]; go_simp; (try with_reducible rfl)
                    try simp only [Act.put, List.setIfInBounds_toArray, List.set_cons_zero, List.set_cons_succ]
                    refine wpHz_takenZ 35 137 ?v198 (by kernel_rfl) (by kernel_rfl) (by kernel_rfl) (by kernel_rfl) (Nat.le_of_ble_eq_true (by kernel_rfl)) (fun _ _ _ h => h) (by rfl) ?hy198 (by assumption) ?rest198
                    case hy198 => intro w hSw; (try dsimp only at hSw); simp only [List.getElem?_toArray, List.getElem?_cons_zero, List.getElem?_cons_succ]; go_simp; (try with_reducible rfl)
                    try simp only [Act.put, List.setIfInBounds_toArray, List.set_cons_zero, List.set_cons_succ]
                    refine wpHz_takenZ 36 138 ?v199 (by kernel_rfl) (by kernel_rfl) (by kernel_rfl) (by kernel_rfl) (Nat.le_of_ble_eq_true (by kernel_rfl)) (fun _ _ _ h => h) (by rfl) ?hy199 (by assumption) ?rest199
                    case hy199 => intro w hSw; (try dsimp only at hSw); simp only [List.getElem?_toArray, List.getElem?_cons_zero, List.getElem?_cons_succ]; go_simp; (try with_reducible rfl)
                    try simp only [Act.put, List.setIfInBounds_toArray, List.set_cons_zero, List.set_cons_succ]
                    refine wpHz_takenZ 37 139 ?v200 (by kernel_rfl) (by kernel_rfl) (by kernel_rfl) (by kernel_rfl) (Nat.le_of_ble_eq_true (by kernel_rfl)) (fun _ _ _ h => h) (by rfl) ?hy200 (by assumption) ?rest200
                    case hy200 => intro w hSw; (try dsimp only at hSw); simp only [List.getElem?_toArray, List.getElem?_cons_zero, List.getElem?_cons_succ]; go_simp; (try with_reducible rfl)
                    try simp only [Act.put, List.setIfInBounds_toArray, List.set_cons_zero, List.set_cons_succ]
                    refine wpHz_takenZ 39 141 ?v201 (by kernel_rfl) (by kernel_rfl) (by kernel_rfl) (by kernel_rfl) (Nat.le_of_ble_eq_true (by kernel_rfl)) (fun _ _ _ h => h) (by rfl) ?hy201 (by assumption) ?rest201
                    case hy201 => intro w hSw; (try dsimp only at hSw); simp only [List.getElem?_toArray, List.getElem?_cons_zero, List.getElem?_cons_succ]; go_simp; (try with_reducible rfl)
                    try simp only [Act.put, List.setIfInBounds_toArray, List.set_cons_zero, List.set_cons_succ]
                    as_aux_lemma =>
                      refine wpHz_one 38 (by kernel_rfl) (by rfl) (fun K hK => ?_)
                      simp only [List.getElem?_toArray, List.getElem?_cons_zero, List.getElem?_cons_succ]
                      go_wp2_with (go_at_call 40; refine HrsA.out.mono ?_; rintro e' w14 ⟨v1, rs1, rfl, hr1, hS14⟩; obtain ⟨_, s1, s2, rfl, -, -, -, -⟩ := hS14.at_ 0 _ rfl)
                      have hrb := Hf4.out trivial rs1 hr1
                      have hrl1 : rs1.length ≤ 4194304 := by have h9 := rest_len HT2.out hr1; rw [List.length_take] at h9; omega
                      have hS14b := Sat.perm (As := [_, _, _, _, _, _, _, _]) hS14 [2, 3, 4, 5, 0, 1, 6, 7] [_, _, _, _, _, _, _, _] rfl (by simp)
                      have c14 := run_cells (Rs := _ :: _ :: _ :: _ :: Rs) hS14b
                      clear hHeld
                      refine hK.out _ _ (fun _ => ⟨c14.2.2.2.1, c14.2.1, c14.2.2.2.2.1⟩) (fun hHeld => ?_)
                      replace hHeld := hHeld (by decide)
                      clear hK K
                      try simp only [Act.put, List.setIfInBounds_toArray, List.set_cons_zero, List.set_cons_succ]
                      have Hry := Lib.hid (rest_yesL (Rs := _ :: _ :: _ :: _ :: Rs) hS14b rs1 hrb hrl1)
                      clear hS14 hS14b c14 hrl1 hrb hr1
                      refine wpHz_one 40 (by kernel_rfl) (by rfl) (fun K hK => ?_)
                      simp only [List.getElem?_toArray, List.getElem?_cons_zero, List.getElem?_cons_succ]
                      go_wp2_with (go_at_call 41; refine Hry.out.mono ?_; rintro e' w15 ⟨v2, rfl, hS15⟩; obtain ⟨_, s3, s4, rfl, -, -, -, -⟩ := hS15.at_ 0 _ rfl)
                      have c15 := run_cells (Rs := _ :: _ :: _ :: _ :: _ :: Rs) (Sat.perm (As := [_, _, _, _, _, _, _, _, _]) hS15 [1, 2, 3, 4, 0, 5, 6, 7, 8] [_, _, _, _, _, _, _, _, _] rfl (by simp))
                      have hS15c : w15.cell? ⟨pr, 4, none⟩ = some (.int .i64 (re : Nat)) ∧ w15.cell? ⟨pr, 2, none⟩ = some (.slice roo q2.hist.length rocap) ∧ w15.cell? ⟨pr, 5, none⟩ = some (.bool true) := ⟨c15.2.2.2.1, c15.2.1, c15.2.2.2.2.1⟩
                      have HsC := Lib.hid (same_d (Sat.front hS15 5 _ rfl).sl_read hS15.sl_read)
                      have Htt := Lib.hid (total_all (Sat.front hS15 6 _ rfl))
                      have HS15 := Lib.hid hS15
                      clear hHeld
                      refine hK.out _ _ (fun _ => hS15c) (fun hHeld => ?_)
                      replace hHeld := hHeld (by decide)
                      clear hK K
                      try simp only [Act.put, List.setIfInBounds_toArray, List.set_cons_zero, List.set_cons_succ]
                      clear hS15 c15 Hry
                      as_aux_lemma =>
                        refine wpHz_one 41 (by kernel_rfl) (by rfl) (fun K hK => ?_)
                        simp only [List.getElem?_toArray, List.getElem?_cons_zero, List.getElem?_cons_succ]
                        go_wp2_with (go_at_call 34; refine HsC.out.mono ?_; rintro e' w16 ⟨rfl, rfl⟩)
                        clear hHeld
                        refine hK.out _ _ (fun _ => hS15c) (fun hHeld => ?_)
                        replace hHeld := hHeld (by decide)
                        clear hK K
                        try simp only [Act.put, List.setIfInBounds_toArray, List.set_cons_zero, List.set_cons_succ]
                        refine wpHz_takenZ 42 144 ?v205 (by kernel_rfl) (by kernel_rfl) (by kernel_rfl) (by kernel_rfl) (Nat.le_of_ble_eq_true (by kernel_rfl)) (fun _ _ _ h => h) (by rfl) ?hy205 (by assumption) ?rest205
                        case hy205 => intro w hSw; (try dsimp only at hSw); simp only [List.getElem?_toArray, List.getElem?_cons_zero, List.getElem?_cons_succ]; go_simp; (try with_reducible rfl)
                        try simp only [Act.put, List.setIfInBounds_toArray, List.set_cons_zero, List.set_cons_succ]
                        refine wpHz_takenZ 43 145 ?v206 (by kernel_rfl) (by kernel_rfl) (by kernel_rfl) (by kernel_rfl) (Nat.le_of_ble_eq_true (by kernel_rfl)) (fun _ _ _ h => h) (by rfl) ?hy206 (by assumption) ?rest206
                        case hy206 => intro w hSw; (try dsimp only at hSw); simp only [List.getElem?_toArray, List.getElem?_cons_zero, List.getElem?_cons_succ]; go_simp; (try with_reducible rfl)
                        try simp only [Act.put, List.setIfInBounds_toArray, List.set_cons_zero, List.set_cons_succ]
                        refine wpHz_takenZ 44 146 ?v207 (by kernel_rfl) (by kernel_rfl) (by kernel_rfl) (by kernel_rfl) (Nat.le_of_ble_eq_true (by kernel_rfl)) (fun _ _ _ h => h) (by rfl) ?hy207 (by assumption) ?rest207
                        case hy207 => intro w hSw; (try dsimp only at hSw); simp only [List.getElem?_toArray, List.getElem?_cons_zero, List.getElem?_cons_succ]; go_simp; (try with_reducible rfl)
                        try simp only [Act.put, List.setIfInBounds_toArray, List.set_cons_zero, List.set_cons_succ]
                        refine wpHz_takenZ 45 147 ?v208 (by kernel_rfl) (by kernel_rfl) (by kernel_rfl) (by kernel_rfl) (Nat.le_of_ble_eq_true (by kernel_rfl)) (fun _ _ _ h => h) (by rfl) ?hy208 (by assumption) ?rest208
                        case hy208 => intro w hSw; (try dsimp only at hSw); simp only [List.getElem?_toArray, List.getElem?_cons_zero, List.getElem?_cons_succ]; go_simp; (try with_reducible rfl)
                        try simp only [Act.put, List.setIfInBounds_toArray, List.set_cons_zero, List.set_cons_succ]
                        refine wpHz_takenZ 47 149 ?v209 (by kernel_rfl) (by kernel_rfl) (by kernel_rfl) (by kernel_rfl) (Nat.le_of_ble_eq_true (by kernel_rfl)) (fun _ _ _ h => h) (by rfl) ?hy209 (by assumption) ?rest209
                        case hy209 => intro w hSw; (try dsimp only at hSw); simp only [List.getElem?_toArray, List.getElem?_cons_zero, List.getElem?_cons_succ]; go_simp; (try with_reducible rfl)
                        try simp only [Act.put, List.setIfInBounds_toArray, List.set_cons_zero, List.set_cons_succ]
                        refine wpHz_takenZ 48 150 ?v210 (by kernel_rfl) (by kernel_rfl) (by kernel_rfl) (by kernel_rfl) (Nat.le_of_ble_eq_true (by kernel_rfl)) (fun _ _ _ h => h) (by rfl) ?hy210 (by assumption) ?rest210
                        case hy210 => intro w hSw; (try dsimp only at hSw); simp only [List.getElem?_toArray, List.getElem?_cons_zero, List.getElem?_cons_succ]; go_simp; (try with_reducible rfl)
                        try simp only [Act.put, List.setIfInBounds_toArray, List.set_cons_zero, List.set_cons_succ]
                        refine wpHz_takenZ 49 151 ?v211 (by kernel_rfl) (by kernel_rfl) (by kernel_rfl) (by kernel_rfl) (Nat.le_of_ble_eq_true (by kernel_rfl)) (fun _ _ _ h => h) (by rfl) ?hy211 (by assumption) ?rest211
                        case hy211 => intro w hSw; (try dsimp only at hSw); simp only [List.getElem?_toArray, List.getElem?_cons_zero, List.getElem?_cons_succ]; go_simp; (try with_reducible rfl)
                        try simp only [Act.put, List.setIfInBounds_toArray, List.set_cons_zero, List.set_cons_succ]
                        refine wpHz_takenZ 50 152 ?v212 (by kernel_rfl) (by kernel_rfl) (by kernel_rfl) (by kernel_rfl) (Nat.le_of_ble_eq_true (by kernel_rfl)) (fun _ _ _ h => h) (by rfl) ?hy212 (by assumption) ?rest212
                        case hy212 => intro w hSw; (try dsimp only at hSw); simp only [List.getElem?_toArray, List.getElem?_cons_zero, List.getElem?_cons_succ]; go_simp; (try with_reducible rfl)
                        try simp only [Act.put, List.setIfInBounds_toArray, List.set_cons_zero, List.set_cons_succ]
                        refine wpHz_takenZ 51 153 ?v213 (by kernel_rfl) (by kernel_rfl) (by kernel_rfl) (by kernel_rfl) (Nat.le_of_ble_eq_true (by kernel_rfl)) (fun _ _ _ h => h) (by rfl) ?hy213 (by assumption) ?rest213
                        case hy213 => intro w hSw; (try dsimp only at hSw); simp only [List.getElem?_toArray, List.getElem?_cons_zero, List.getElem?_cons_succ]; go_simp; (try with_reducible rfl)
                        try simp only [Act.put, List.setIfInBounds_toArray, List.set_cons_zero, List.set_cons_succ]
                        refine wpHz_one 46 (by kernel_rfl) (by rfl) (fun K hK => ?_)
                        simp only [List.getElem?_toArray, List.getElem?_cons_zero, List.getElem?_cons_succ]
                        go_wp2_with (go_at_call 42; refine Htt.out.mono ?_; rintro e' w16 ⟨rfl, rfl⟩)
                        clear hHeld
                        refine hK.out _ _ (fun _ => hS15c) (fun hHeld => ?_)
                        replace hHeld := hHeld (by decide)
                        clear hK K
                        try simp only [Act.put, List.setIfInBounds_toArray, List.set_cons_zero, List.set_cons_succ]
                        refine wpHz_takenZ 52 154 ?v215 (by kernel_rfl) (by kernel_rfl) (by kernel_rfl) (by kernel_rfl) (Nat.le_of_ble_eq_true (by kernel_rfl)) (fun _ _ _ h => h) (by rfl) ?hy215 (by assumption) ?rest215
                        case hy215 => intro w hSw; (try dsimp only at hSw); simp only [List.getElem?_toArray, List.getElem?_cons_zero, List.getElem?_cons_succ]; go_simp; (try with_reducible rfl)
                        try simp only [Act.put, List.setIfInBounds_toArray, List.set_cons_zero, List.set_cons_succ]
                        refine wpHz_takenZ 53 155 ?v216 (by kernel_rfl) (by kernel_rfl) (by kernel_rfl) (by kernel_rfl) (Nat.le_of_ble_eq_true (by kernel_rfl)) (fun _ _ _ h => h) (by rfl) ?hy216 (by assumption) ?rest216
                        case hy216 => intro w hSw; (try dsimp only at hSw); simp only [List.getElem?_toArray, List.getElem?_cons_zero, List.getElem?_cons_succ]; go_simp; (try with_reducible rfl)
                        try simp only [Act.put, List.setIfInBounds_toArray, List.set_cons_zero, List.set_cons_succ]
                        refine wpHz_done (by kernel_rfl) ?_ _
                        have q2c := hS15c.2.1
                        clear hS15c hS0 hHeld HsC Htt HSame2 HdnH Hcl HrsA
                        clear Hf4 Hpl
                        go_wp2
                        refine ⟨⟨k + 1, E, q2, _, by omega, hEy, vi (by omega), rfl, rfl, rfl, ?_, HT2.out, Sat.perm (As := [_, _, _, _, _, _, _, _, _]) HS15.out [6] [_] rfl (by simp)⟩, by simp [intOf] <;> omega⟩
                        unfold Hid
                        rw [Bool.eq_iff_iff]
                        simp
        · go_wp2_with (first
            | (go_at_call 38; refine HOf.out.mono ?_; rintro e' w12 ⟨pr, rr, rfl, hfin, hro, hS12⟩; have hfo := final_of HT2.out hfin; obtain ⟨rb, ro, re, rdn, rks⟩ := rr; obtain ⟨p4, -, -, -⟩ := run_done hS12; have hqe : q.err ≠ 0 := of_decide_eq_true Hbd.out.symm; have hnw0 : nw.length = 0 := (by rw [(Hbad.out hqe).1]; rfl); have hce : clearE re = q2.err := hfo.2.2.1; have Hcl := clear_any w12 re; rw [hce] at Hcl; have Hcl := Lib.hid Hcl; have HS12 := Lib.hid hS12; have Hqe := Lib.hid hqe; clear HOf hS12 hro hfin hfo hce hqe)
            | (go_at_call 39; refine Hcl.out.mono ?_; rintro e' w13 ⟨rfl, rfl⟩; clear Hcl))
          all_goals
            refine ⟨⟨k + 1, E, q2, true, by omega, hEy, vi (by omega), rfl, ?_, rfl, ?_, HT2.out, Sat.perm (As := [_, _, _, _]) HS12.out [2] [_] rfl (by simp)⟩, by simp [intOf] <;> omega⟩
            · rw [(Hbad.out Hqe.out).2]
            · unfold Hid; rw [(Hbad.out Hqe.out).2]; exact Hbd.out

end Go.Proofs.Ytobkmkdnkdbgeaa
