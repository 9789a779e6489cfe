/- The law ZlibReads: its walk. -/
import Derived.Test.YtdpocnkeokplpaaGreatZ8
import Derived.Test.YtdpocnkeokplpaaGreatHz
import Derived.Deep.CutRange
namespace Go.Proofs.YtdpocnkeokplpaaGreat
open Go.RowKit Go.Hal
set_option linter.unusedVariables false
set_option linter.unusedSimpArgs false

theorem incr_byte (c : UInt8) : ∃ c2 : UInt8, IntKind.u8.wrap ((c.toNat : Int) + 1) = (c2.toNat : Int) := by
  refine ⟨c + 1, ?_⟩
  have h := c.toNat_lt
  have h2 : (c + 1).toNat = (c.toNat + 1) % 256 := by rw [UInt8.toNat_add]; rfl
  rw [h2]
  by_cases hc : c.toNat = 255
  · rw [hc]; decide
  · rw [Nat.mod_eq_of_lt (by omega)]
    have : ∀ n : Nat, n < 255 → IntKind.u8.wrap ((n : Int) + 1) = ((n + 1 : Nat) : Int) := by decide +kernel
    exact this _ (by omega)
theorem blk4_cells {w : World} {p : Nat} {a b c d : Value} {t : TypeId} {Rs : List Res} (hS : Sat w (blk p (.cells #[a, b, c, d] t (0, 0)) :: Rs)) : w.cell? ⟨p, 0, none⟩ = some a ∧ w.cell? ⟨p, 1, none⟩ = some b ∧ w.cell? ⟨p, 2, none⟩ = some c ∧ w.cell? ⟨p, 3, none⟩ = some d := by
  have h := Sat.heap hS
  exact ⟨by rw [cell_of_row w p 0 _ _ _ h]; rfl, by rw [cell_of_row w p 1 _ _ _ h]; rfl, by rw [cell_of_row w p 2 _ _ _ h]; rfl, by rw [cell_of_row w p 3 _ _ _ h]; rfl⟩
/-- A push onto what was told of some bytes; behind an error nothing comes. -/
theorem zpush_next {w : World} {z : Nat} {lim : Int} {s : ZS} {ys b : List UInt8} {Rs : List Res} (hlim : lim ≤ 65535) (hT : ZT lim ys s) (hys : ys.length + b.length ≤ 1048576) (hS : Sat w (zd z lim s :: Rs)) {v : Value} (hv : ∀ w', Sat w' Rs → SlR w' 5 1 b.length v (b.map byteV)) :
    Calls Tryz.prog 17 #[.pointer (some ⟨z, 0, none⟩), v] w fun e' w' => ∃ s2 nw ov, ZT lim (ys ++ b) s2 ∧ s2.q.hist = s.q.hist ++ nw ∧ (s.e ≠ 0 → nw = [] ∧ s2.e = s.e) ∧ e' = .returned (.tuple #[ov, .int .i64 (s2.e : Nat)]) ∧
      Sat w' (sl 5 1 nw.length ov (nw.map byteV) :: zd z lim s2 :: Rs) := by
  refine (zPush_any hlim hT hys hS hv).mono ?_
  rintro e' w' ⟨s2, nw, ov, h1, h2, h3, h4⟩
  refine ⟨s2, nw, ov, h1, h2, fun he => ?_, h3, h4⟩
  obtain ⟨k1, k2, -, -⟩ := zt_one h1 (zt_bad (b := b) hT he)
  rw [k2] at h2
  have h5 := congrArg List.length h2
  rw [List.length_append] at h5
  exact ⟨List.eq_nil_of_length_eq_zero (by omega), k1⟩

set_option maxRecDepth 100000 in
set_option maxHeartbeats 4000000 in
theorem zlibReads_true {w : World} {Rs : List Res} (hS : Sat w Rs) (u : Value) (ys : List UInt8) (hu : ∀ w', Sat w' Rs → SlR w' 5 1 ys.length u (ys.map byteV)) (v : Value) (zs : List UInt8) (hv : ∀ w', Sat w' Rs → SlR w' 5 1 zs.length v (zs.map byteV)) (lim0 : Int) :
    Calls Tryz.prog 5 #[u, v, .int .i64 lim0] w fun e w' => e = .returned (.bool true) ∧ Sat w' Rs := by
  have hfix := fixed8_true hS
  obtain ⟨ao, cap, rfl, hcap, hcm, -, -⟩ := hu w hS
  obtain ⟨bo, bap, rfl, hbap, hbm, -, -⟩ := hv w hS
  have Hu := Lib.hid hu
  have Hv := Lib.hid hv
  clear hS hu hv hcm hbm
  by_cases hbig : 400 < ys.length
  · have hd : decide ((400 : Int) < (ys.length : Int)) = true := decide_eq_true (by omega)
    go_enter Tryz.func5, Tryz.ntmps5
    go_wp2_with (go_at_call 6; refine hfix.mono ?_; rintro e w1 ⟨rfl, hS1⟩)
    go_ret
    exact ⟨rfl, hS1⟩
  have hd : decide ((400 : Int) < (ys.length : Int)) = false := decide_eq_false (by omega)
  by_cases hbig2 : 6 < zs.length
  · have hd2 : decide ((6 : Int) < (zs.length : Int)) = true := decide_eq_true (by omega)
    go_enter Tryz.func5, Tryz.ntmps5
    go_wp2_with (go_at_call 6; refine hfix.mono ?_; rintro e w1 ⟨rfl, hS1⟩)
    go_ret
    exact ⟨rfl, hS1⟩
  have hd2 : decide ((6 : Int) < (zs.length : Int)) = false := decide_eq_false (by omega)
  have hyl : ys.length ≤ 400 := by omega
  have hzl : zs.length ≤ 6 := by omega
  obtain ⟨lim, Hlim⟩ : ∃ lim : Int, Hid ((20000 < lim0 → lim = 20000) ∧ (¬ 20000 < lim0 → lim = lim0)) := ⟨if 20000 < lim0 then 20000 else lim0, fun h => if_pos h, fun h => if_neg h⟩
  have hlim : lim ≤ 20000 := by
    by_cases h : 20000 < lim0
    · rw [Hlim.out.1 h]; omega
    · rw [Hlim.out.2 h]; omega
  clear hbig hbig2
    -- THE WALK
  go_enter Tryz.func5, Tryz.ntmps5
  go_upto_if 29 with (go_at_call 6; refine hfix.mono ?_; rintro e w1 ⟨rfl, hS1⟩; have HS1 := Lib.hid hS1; clear hS1 hfix)
  go_cut [2] from 18 (fun s7 wx => s7 = .int .i64 lim ∧ Hid (Sat wx Rs))
  case first =>
    by_cases hll : 20000 < lim0
    · have Hl := Lib.hid (Hlim.out.1 hll)
      go_wp2
      go_meet
      exact ⟨by rw [Hl.out], HS1.out⟩
    · have Hl := Lib.hid (Hlim.out.2 (by omega))
      go_wp2
      go_meet
      exact ⟨by rw [Hl.out], HS1.out⟩
  case rest =>
    obtain ⟨rfl, HS0⟩ := hcut
    have Hnew := Lib.hid (zNew_any HS0.out lim)
    go_wp2_with (go_at_call 16; refine Hnew.out.mono ?_; rintro e w2 ⟨d, rfl, hS2⟩; clear Hnew)
    have HS2 : Hid (Sat w2 (zd d lim ⟨.ok ds0, [], [], [], false, 0⟩ :: Rs)) := hS2
    clear hS2 HS0
    obtain ⟨i0, hi, hz0, hz1, hz2⟩ := info_parts Tryz.infoU8
    go_loopw [8, 9, 10, 11] (fun tv av bv iv wr => ∃ (k n : Nat) (q : ZS) (bd : Bool), k ≤ zs.length + 1 ∧ n ≤ ys.length ∧ iv = .int .i64 k ∧ av = .int .i64 n ∧ tv = .int .i64 (q.q.hist.length : Nat) ∧ bv = .bool bd ∧ Hid (bd = decide (q.e ≠ 0)) ∧ Hid (ZT lim (ys.take n) q) ∧ Hid (Sat wr (zd d lim q :: Rs))) (fun _ _ _ iv _ => zs.length + 1 - (intOf iv).toNat)
    case atStart => exact ⟨0, 0, ⟨.ok ds0, [], [], [], false, 0⟩, false, by omega, by omega, rfl, rfl, rfl, rfl, rfl, zt_nil lim, HS2.out⟩
    case round =>
      obtain ⟨k, n, q, bd, hk, hn, rfl, rfl, rfl, rfl, Hbd, HT, HS5⟩ := hrel
      clear HS2
      by_cases hkz : k ≤ zs.length
      rotate_left
      · have hkd : decide ((k : Int) ≤ (zs.length : Int)) = false := decide_eq_false (by omega)
        go_wp2
        go_ret
        exact ⟨rfl, HS5.out.tail⟩
      have hkd : decide ((k : Int) ≤ (zs.length : Int)) = true := decide_eq_true (by omega)
      obtain ⟨Mx, HMx⟩ : ∃ Mx, Hid (Mx = ys.length - n) := ⟨_, Lib.hid rfl⟩
      have hMxI : (ys.length : Int) - (n : Int) = (Mx : Int) := by rw [HMx.out]; omega
      have hql : q.q.hist.length ≤ 20000 := by have := zt_cap HT.out; omega
      -- what is pushed: M bytes
      have hcase : ∃ M : Nat, M ≤ Mx ∧ ((k = zs.length ∧ M = Mx) ∨ (k < zs.length ∧ ∃ c : UInt8, zs[k]? = some c ∧ min (Mx : Int) (c.toNat : Int) = (M : Int))) := by
        by_cases hkl : k < zs.length
        · by_cases hc : Mx ≤ zs[k].toNat
          · exact ⟨Mx, Nat.le_refl _, .inr ⟨hkl, zs[k], List.getElem?_eq_getElem hkl, by omega⟩⟩
          · exact ⟨zs[k].toNat, by omega, .inr ⟨hkl, zs[k], List.getElem?_eq_getElem hkl, by omega⟩⟩
        · exact ⟨Mx, Nat.le_refl _, .inl ⟨by omega, rfl⟩⟩
      obtain ⟨M, hM, hcs⟩ := hcase
      have hnM : n + M ≤ ys.length := by rw [HMx.out] at hM; omega
      have hnMc : n + M ≤ cap := by omega
      have hsrc : ∀ w', Sat w' Rs → ∀ x, x = .slice (if cap = n then ao else Option.map (fun x => x.add n) ao) M (cap - n) → SlR w' 5 1 M x (((ys.drop n).take M).map byteV) := by
        rintro w' h' x rfl
        have h1 := SlR.head (SlR.rest (Hu.out w' h') n hn) M (by omega)
        rw [← List.map_drop, ← List.map_take] at h1
        exact h1
      obtain ⟨pc, Hpc⟩ : ∃ pc, Hid (pc = (ys.drop n).take M) := ⟨_, Lib.hid rfl⟩
      have Hpl : Hid (pc.length = M) := by unfold Hid; rw [Hpc.out, List.length_take, List.length_drop]; omega
      rw [← Hpc.out] at hsrc
      have HsrA : Hid (∀ w', Sat w' Rs → ¬ cap = n → SlR w' 5 1 M (.slice (Option.map (fun x => x.add n) ao) M (cap - n)) (pc.map byteV)) := fun w' h' hc => hsrc w' h' _ (by rw [if_neg hc])
      have HsrB : Hid (∀ w', Sat w' Rs → cap = n → SlR w' 5 1 M (.slice ao M 0) (pc.map byteV)) := fun w' h' hc => hsrc w' h' _ (by rw [if_pos hc, hc, Nat.sub_self])
      have hA := ((HS5.out.alloc_drop (.cells #[] 5)).sl_nil 5 1 (some ⟨wr.heap.size, 0, none⟩))
      have HA := Lib.hid hA
      have Hpu : Hid (∀ w1 x, Sat w1 (sl 5 1 M x (pc.map byteV) :: zd d lim q :: Rs) → Calls Tryz.prog 17 #[.pointer (some ⟨d, 0, none⟩), x] w1 fun e' w' => ∃ q2 nw ov, ZT lim (ys.take (n + M)) q2 ∧ q2.q.hist = q.q.hist ++ nw ∧ (q.e ≠ 0 → nw = [] ∧ q2.e = q.e) ∧ e' = .returned (.tuple #[ov, .int .i64 (q2.e : Nat)]) ∧
          Sat w' (sl 5 1 nw.length ov (nw.map byteV) :: zd d lim q2 :: sl 5 1 M x (pc.map byteV) :: Rs)) := by
        intro w1 x h
        have h2 := zpush_next (b := pc) (v := x) (by omega) HT.out (by rw [List.length_take, Hpl.out]; omega) h.swap (fun w' h' => by rw [Hpl.out]; exact h'.sl_read)
        have e1 : ys.take n ++ pc = ys.take (n + M) := by rw [Hpc.out, List.take_add]
        rw [e1] at h2
        exact h2
      obtain ⟨E, HE⟩ : ∃ E, Hid (E = n + M) := ⟨_, Lib.hid rfl⟩
      have hEI : (n : Int) + (M : Int) = (E : Int) := by rw [HE.out]; rfl
      have hEy : E ≤ ys.length := by rw [HE.out]; exact hnM
      have hEc : E ≤ cap := by rw [HE.out]; exact hnMc
      have hnE : n ≤ E := by rw [HE.out]; omega
      have hEn : E - n = M := by rw [HE.out]; omega
      rw [← HE.out] at Hpu
      clear hA hsrc hnM hnMc
      go_upto_if 45 with (fail)
      go_cut [12] from 32 to 146 (fun s13 wx => s13 = .int .i64 M ∧ wx = wr)
      case first =>
        rcases hcs with ⟨hke, hMe⟩ | ⟨hkl, c, hzc, hcm⟩
        · have hkd2 : decide ((k : Int) < (zs.length : Int)) = false := decide_eq_false (by omega)
          have hkd3 : decide (k < zs.length) = false := decide_eq_false (by omega)
          have HMe := Lib.hid hMe
          have hkge : zs.length ≤ k := by omega
          clear hMe hke
          go_wp2
          all_goals first
            | (exfalso; omega)
            | (go_meet
               exact ⟨by rw [HMe.out], rfl⟩)
        · have hkd2 : decide ((k : Int) < (zs.length : Int)) = true := decide_eq_true (by omega)
          have hkd3 : decide (k < zs.length) = true := decide_eq_true (by omega)
          obtain ⟨a9, c9, he9, -, -, -, hb9⟩ := Hv.out wr HS5.out.tail
          simp only [Value.slice.injEq, true_and] at he9
          obtain ⟨rfl, rfl⟩ := he9
          obtain ⟨b9, o9, rfl, -, hc9⟩ := hb9 (by omega)
          have hc10 : wr.cell? ⟨b9, o9 + k, none⟩ = some (.int .u8 c.toNat) := hc9 k _ (by rw [List.getElem?_map, hzc]; rfl)
          have hcb : c.toNat < 256 := c.toNat_lt
          obtain ⟨cn, Hcn⟩ : ∃ cn, Hid (cn = c.toNat) := ⟨_, Lib.hid rfl⟩
          rw [← Hcn.out] at hc10 hcm hcb
          clear hc9 hzc
          go_wp2
          all_goals first
            | (exfalso; omega)
            | (go_meet
               exact ⟨vi (by omega), rfl⟩)
      obtain ⟨rfl, rfl⟩ := hcut
      go_upto_region 16 with (fail)
      go_cut [13] from 32 to 146 (fun s14 wx => ∃ wo wap, s14 = .slice wo M wap ∧ Hid (Sat wx (sl 5 1 M (.slice wo M wap) (pc.map byteV) :: zd d lim q :: Rs)))
      case first =>
        by_cases hcn : cap = n
        · have HsrX := Lib.hid (fun w' h' => HsrB.out w' h' hcn)
          subst hcn
          clear HsrA HsrB
          go_wp2_with (at_builtin; refine wpList_append_sat _ rfl _ _ 22 22 rfl 5 i0 (.int .u8 0) 1 1 Tryz.underlying22 hi hz0 hz1 hz2 rfl (by decide) 0 _ _ _ rfl HA.out M _ _ rfl (SlR.src (P := Tryz.prog) (HsrX.out _ HA.out.tail.tail) Tryz.underlying22 (byteV_one pc)) (by unfold maxLen; omega) (by omega) ?_; intro v9 w9 hS9; rw [Nat.zero_add, List.nil_append] at hS9; obtain ⟨_, wo, wap, hv9, -, -, -, -⟩ := hS9.at_ 0 _ rfl; subst hv9; have HS9 := Lib.hid hS9; clear hS9 HA Hpu HsrX)
          go_wp2
          go_meet
          exact ⟨_, _, rfl, HS9.out⟩
        · have HsrX := Lib.hid (fun w' h' => HsrA.out w' h' hcn)
          clear HsrA HsrB
          go_wp2_with (at_builtin; refine wpList_append_sat _ rfl _ _ 22 22 rfl 5 i0 (.int .u8 0) 1 1 Tryz.underlying22 hi hz0 hz1 hz2 rfl (by decide) 0 _ _ _ rfl HA.out M _ _ rfl (SlR.src (P := Tryz.prog) (HsrX.out _ HA.out.tail.tail) Tryz.underlying22 (byteV_one pc)) (by unfold maxLen; omega) (by omega) ?_; intro v9 w9 hS9; rw [Nat.zero_add, List.nil_append] at hS9; obtain ⟨_, wo, wap, hv9, -, -, -, -⟩ := hS9.at_ 0 _ rfl; subst hv9; have HS9 := Lib.hid hS9; clear hS9 HA Hpu HsrX)
          go_wp2
          go_meet
          exact ⟨_, _, rfl, HS9.out⟩
      obtain ⟨wo, wap, rfl, HS9⟩ := hcut
      clear HA HsrA HsrB HMx hMxI hM hcs
      have Hpp := Lib.hid (Hpu.out _ _ HS9.out)
      clear HS9 Hpu
      go_wp2_with (go_at_call 17; refine Hpp.out.mono ?_; rintro e' w10 ⟨q2, nw, ov, hT2, hnw, hbad, rfl, hS10⟩; obtain ⟨_, xo, xap, rfl, -, -, -, -⟩ := hS10.at_ 0 _ rfl; have HS10 := Lib.hid hS10; have HT2 := Lib.hid hT2; have Hnw := Lib.hid hnw; have Hbad := Lib.hid hbad; clear Hpp hS10 hT2 hnw hbad)
      go_loopw [72] (fun iv2 wz => ∃ (j : Nat) (xs : List Int), j ≤ M ∧ iv2 = .int .i64 j ∧ Hid (xs.length = M) ∧ Hid (Sat wz (sl 5 1 nw.length (.slice xo nw.length xap) (nw.map byteV) :: zd d lim q2 :: sl 5 1 M (.slice wo M wap) (xs.map (Value.int .u8)) :: Rs))) (fun iv2 _ => M - (intOf iv2).toNat)
      case atStart => exact ⟨0, pc.map (fun c => (c.toNat : Int)), by omega, rfl, by unfold Hid; rw [List.length_map, Hpl.out], by rw [List.map_map]; exact HS10.out⟩
      case round =>
        obtain ⟨j, xs, hj, rfl, Hxl, HS11⟩ := hrel
        clear HS10
        by_cases hjM : j < M
        · have hjd : decide ((j : Int) < (M : Int)) = true := decide_eq_true (by omega)
          have hF := Sat.perm (As := [_, _, _]) HS11.out [2, 0, 1] [_, _, _] rfl (by simp)
          obtain ⟨ob, off, c9, heq, hMw, -, -, hcl, hfr⟩ := hF.sl_cells (by omega)
          simp only [Value.slice.injEq, true_and] at heq
          obtain ⟨rfl, rfl⟩ := heq
          obtain ⟨z, hz⟩ : ∃ z, xs[j]? = some z := ⟨_, List.getElem?_eq_getElem (by rw [Hxl.out]; exact hjM)⟩
          have g1 := hcl j (.int .u8 z) (by rw [List.getElem?_map, hz]; rfl)
          have g2 := hfr j
          have Hset : Hid (∀ z2 : Int, Sat (wr.setCell ⟨ob, off + j, none⟩ (.int .u8 z2)) (sl 5 1 nw.length (.slice xo nw.length xap) (nw.map byteV) :: zd d lim q2 :: sl 5 1 M (.slice (some ⟨ob, off, none⟩) M wap) ((xs.set j z2).map (Value.int .u8)) :: Rs)) := by
            intro z2
            have h5 := hF.sl_set j (by rw [List.length_map, Hxl.out]; exact hjM) (.int .u8 z2)
            rw [← List.map_set] at h5
            exact Sat.perm (As := [_, _, _]) h5 [1, 2, 0] [_, _, _] rfl (by simp)
          clear hF hcl hfr hz
          go_wp2
          exact ⟨⟨j + 1, xs.set j _, by omega, vi (by omega), by unfold Hid; rw [List.length_set]; exact Hxl.out, Hset.out _⟩, by simp [intOf]; omega⟩
        have hjd : decide ((j : Int) < (M : Int)) = false := decide_eq_false (by omega)
        have HOf := Lib.hid (ref8_any (lim := lim) (ys := ys.take E) (v := .slice ao E cap) HS11.out (by omega) (fun w' h' => (by have h1 := SlR.head (Hu.out w' h'.tail.tail.tail) E hEy; rw [← List.map_take] at h1; rw [show (ys.take E).length = E by rw [List.length_take]; omega]; exact h1)) (by rw [List.length_take]; omega))
        clear HS11
        cases bd
        · go_wp2_with (go_at_call 8; refine HOf.out.mono ?_; rintro e' w12 ⟨out, rest, e8, dn, ov8, rv8, X, hal, rfl, hrd, hS3⟩; obtain ⟨f1, f2, f3, f4⟩ := hal q2 HT2.out; subst f1; subst f3; subst f4; obtain ⟨ro8, rap8, rfl, -, -, -, -⟩ := hrd _ hS3.tail; obtain ⟨_, roo, rocap, rfl, hroc, -, -, -⟩ := hS3.at_ 0 _ rfl; have Hrd := Lib.hid hrd; have F2 := Lib.hid f2; have HA8 := Lib.hid (hS3.alloc (.cells #[.slice roo q2.q.hist.length rocap, .slice ro8 q2.rest.length rap8, .int .i64 (e8 : Nat), .bool q2.done] 29)); clear HOf hal hrd hS3 f2)
          generalize hpr : w12.heap.size = pr at HA8 ⊢
          generalize (w12.alloc (.cells #[.slice roo q2.q.hist.length rocap, .slice ro8 q2.rest.length rap8, .int .i64 (e8 : Nat), .bool q2.done] 29)) = W8 at HA8 ⊢
          clear hpr
          have hS0 := blk4_cells HA8.out.drew
          have Hcl := clear8_any W8.drew e8
          rw [F2.out] at Hcl
          have Hcl := Lib.hid Hcl
          have hlen : q.q.hist.length ≤ q2.q.hist.length := by rw [Hnw.out, List.length_append]; omega
          have hlenI : decide ((q2.q.hist.length : Int) < (q.q.hist.length : Int)) = false := decide_eq_false (by omega)
          have hlenN : decide (q2.q.hist.length < q.q.hist.length) = false := decide_eq_false (by omega)
          have hnwd : q2.q.hist.drop q.q.hist.length = nw := by rw [Hnw.out]; exact List.drop_left ..
          have hrl : q2.rest.length ≤ 1048576 := by have h9 := (zt_foot HT2.out).2; rw [List.length_take] at h9; omega
          have HdnH := Lib.hid (zDone_any (Sat.front HA8.out.drew 4 _ rfl))
          have HrsA := Lib.hid (zRest_any (Sat.front HA8.out.drew 4 _ rfl) hrl)
          have HSame : Hid (∀ x, x = .slice (if rocap = q.q.hist.length then roo else Option.map (fun x => x.add q.q.hist.length) roo) (q2.q.hist.length - q.q.hist.length) (rocap - q.q.hist.length) → Calls Tryz.prog 12 #[.slice xo nw.length xap, x] W8.drew fun e' w' => e' = .returned (.bool true) ∧ w' = W8.drew) := by
            rintro x rfl
            have h9 := HA8.out.drew
            have h10 := SlR.rest (Sat.front h9 1 _ rfl).sl_read q.q.hist.length hlen
            rw [← List.map_drop, hnwd] at h10
            have hnl : q2.q.hist.length - q.q.hist.length = nw.length := by rw [Hnw.out, List.length_append]; omega
            rw [hnl] at h10 ⊢
            refine (same_d (xs := nw) (ys := nw) (Sat.front HA8.out.drew 3 _ rfl).sl_read h10).mono ?_
            rintro e' w' ⟨rfl, rfl⟩
            rw [beq_self_eq_true]
            exact ⟨rfl, rfl⟩
          clear hnwd F2 hroc hrl
          rcases Decidable.em (rocap = q.q.hist.length) with hrc | hrc
          · as_aux_lemma =>
              have HSame2 : Hid (∀ x, x = .slice (if rocap = q.q.hist.length then roo else Option.map (fun x => x.add q.q.hist.length) roo) (q2.q.hist.length - q.q.hist.length) (rocap - q.q.hist.length) → Calls Tryz.prog 12 #[.slice xo nw.length xap, x] W8.drew fun e' w' => e' = .returned (.bool true) ∧ w' = W8.drew) := HSame
              clear HSame
              refine wp_region_hz (z := 1000) (S := fun w' => w'.cell? ⟨pr, 0, none⟩ = some (.slice roo q2.q.hist.length rocap) ∧ w'.cell? ⟨pr, 1, none⟩ = some (.slice ro8 q2.rest.length rap8) ∧ w'.cell? ⟨pr, 2, none⟩ = some (.int .i64 (e8 : Nat)) ∧ w'.cell? ⟨pr, 3, none⟩ = some (.bool q2.done)) (by kernel_rfl) hS0 (fun hHeld => ?_)
              refine wpHz_takenZ 0 98 ?v1 (by kernel_rfl) (by kernel_rfl) (by kernel_rfl) (by kernel_rfl) (Nat.le_of_ble_eq_true (by kernel_rfl)) (fun _ _ _ h => h) (by rfl) ?hy1 (by assumption) ?rest1
              case hy1 => intro w hSw; (try dsimp only at hSw); simp only [List.getElem?_toArray, List.getElem?_cons_zero, List.getElem?_cons_succ]; go_simp; (try with_reducible rfl)
              try simp only [Act.put, List.setIfInBounds_toArray, List.set_cons_zero, List.set_cons_succ]
              refine wpHz_takenZ 1 99 ?v2 (by kernel_rfl) (by kernel_rfl) (by kernel_rfl) (by kernel_rfl) (Nat.le_of_ble_eq_true (by kernel_rfl)) (fun _ _ _ h => h) (by rfl) ?hy2 (by assumption) ?rest2
              case hy2 => intro w hSw; (try dsimp only at hSw); simp only [List.getElem?_toArray, List.getElem?_cons_zero, List.getElem?_cons_succ]; go_simp; (try with_reducible rfl)
              try simp only [Act.put, List.setIfInBounds_toArray, List.set_cons_zero, List.set_cons_succ]
              refine wpHz_takenZ 2 100 ?v3 (by kernel_rfl) (by kernel_rfl) (by kernel_rfl) (by kernel_rfl) (Nat.le_of_ble_eq_true (by kernel_rfl)) (fun _ _ _ h => h) (by rfl) ?hy3 (by assumption) ?rest3
              case hy3 => intro w hSw; (try dsimp only at hSw); simp only [List.getElem?_toArray, List.getElem?_cons_zero, List.getElem?_cons_succ]; go_simp; (try with_reducible rfl)
              try simp only [Act.put, List.setIfInBounds_toArray, List.set_cons_zero, List.set_cons_succ]
              refine wpHz_one 3 (by kernel_rfl) (by rfl) (fun K hK => ?_)
              simp only [List.getElem?_toArray, List.getElem?_cons_zero, List.getElem?_cons_succ]
              go_wp2_with (go_at_call 9; refine Hcl.out.mono ?_; rintro e' w13 ⟨rfl, rfl⟩)
              clear hHeld
              refine hK.out _ _ (fun _ => hS0) (fun hHeld => ?_)
              replace hHeld := hHeld (by decide)
              clear hK K
              try simp only [Act.put, List.setIfInBounds_toArray, List.set_cons_zero, List.set_cons_succ]
              refine wpHz_takenZ 4 102 ?v5 (by kernel_rfl) (by kernel_rfl) (by kernel_rfl) (by kernel_rfl) (Nat.le_of_ble_eq_true (by kernel_rfl)) (fun _ _ _ h => h) (by rfl) ?hy5 (by assumption) ?rest5
              case hy5 => intro w hSw; (try dsimp only at hSw); simp only [List.getElem?_toArray, List.getElem?_cons_zero, List.getElem?_cons_succ]; go_simp; (try with_reducible rfl)
              try simp only [Act.put, List.setIfInBounds_toArray, List.set_cons_zero, List.set_cons_succ]
              refine wpHz_takenZ 5 103 ?v6 (by kernel_rfl) (by kernel_rfl) (by kernel_rfl) (by kernel_rfl) (Nat.le_of_ble_eq_true (by kernel_rfl)) (fun _ _ _ h => h) (by rfl) ?hy6 (by assumption) ?rest6
              case hy6 => intro w hSw; (try dsimp only at hSw); simp only [List.getElem?_toArray, List.getElem?_cons_zero, List.getElem?_cons_succ]; go_simp; (try with_reducible rfl)
              try simp only [Act.put, List.setIfInBounds_toArray, List.set_cons_zero, List.set_cons_succ]
              refine wpHz_takenZ 6 104 ?v7 (by kernel_rfl) (by kernel_rfl) (by kernel_rfl) (by kernel_rfl) (Nat.le_of_ble_eq_true (by kernel_rfl)) (fun _ _ _ h => h) (by rfl) ?hy7 (by assumption) ?rest7
              case hy7 => intro w hSw; (try dsimp only at hSw); simp only [List.getElem?_toArray, List.getElem?_cons_zero, List.getElem?_cons_succ]; go_simp; (try with_reducible rfl)
              try simp only [Act.put, List.setIfInBounds_toArray, List.set_cons_zero, List.set_cons_succ]
              refine wpHz_takenZ 7 105 ?v8 (by kernel_rfl) (by kernel_rfl) (by kernel_rfl) (by kernel_rfl) (Nat.le_of_ble_eq_true (by kernel_rfl)) (fun _ _ _ h => h) (by rfl) ?hy8 (by assumption) ?rest8
              case hy8 => intro w hSw; (try dsimp only at hSw); simp only [List.getElem?_toArray, List.getElem?_cons_zero, List.getElem?_cons_succ]; go_simp; (try with_reducible rfl)
              try simp only [Act.put, List.setIfInBounds_toArray, List.set_cons_zero, List.set_cons_succ]
              refine wpHz_takenZ 8 106 ?v9 (by kernel_rfl) (by kernel_rfl) (by kernel_rfl) (by kernel_rfl) (Nat.le_of_ble_eq_true (by kernel_rfl)) (fun _ _ _ h => h) (by rfl) ?hy9 (by assumption) ?rest9
              case hy9 => intro w hSw; (try dsimp only at hSw); simp only [List.getElem?_toArray, List.getElem?_cons_zero, List.getElem?_cons_succ]; go_simp; (try with_reducible rfl)
              try simp only [Act.put, List.setIfInBounds_toArray, List.set_cons_zero, List.set_cons_succ]
              refine wpHz_takenZ 9 107 ?v10 (by kernel_rfl) (by kernel_rfl) (by kernel_rfl) (by kernel_rfl) (Nat.le_of_ble_eq_true (by kernel_rfl)) (fun _ _ _ h => h) (by rfl) ?hy10 (by assumption) ?rest10
              case hy10 => intro w hSw; (try dsimp only at hSw); simp only [List.getElem?_toArray, List.getElem?_cons_zero, List.getElem?_cons_succ]; go_simp; (try with_reducible rfl)
              try simp only [Act.put, List.setIfInBounds_toArray, List.set_cons_zero, List.set_cons_succ]
              refine wpHz_takenZ 10 108 ?v11 (by kernel_rfl) (by kernel_rfl) (by kernel_rfl) (by kernel_rfl) (Nat.le_of_ble_eq_true (by kernel_rfl)) (fun _ _ _ h => h) (by rfl) ?hy11 (by assumption) ?rest11
              case hy11 => intro w hSw; (try dsimp only at hSw); simp only [List.getElem?_toArray, List.getElem?_cons_zero, List.getElem?_cons_succ]; go_simp; (try with_reducible rfl)
              try simp only [Act.put, List.setIfInBounds_toArray, List.set_cons_zero, List.set_cons_succ]
              refine wpHz_takenZ 11 109 ?v12 (by kernel_rfl) (by kernel_rfl) (by kernel_rfl) (by kernel_rfl) (Nat.le_of_ble_eq_true (by kernel_rfl)) (fun _ _ _ h => h) (by rfl) ?hy12 (by assumption) ?rest12
              case hy12 => intro w hSw; (try dsimp only at hSw); simp only [List.getElem?_toArray, List.getElem?_cons_zero, List.getElem?_cons_succ]; go_simp; (try with_reducible rfl)
              try simp only [Act.put, List.setIfInBounds_toArray, List.set_cons_zero, List.set_cons_succ]
              refine wpHz_takenZ 12 110 ?v13 (by kernel_rfl) (by kernel_rfl) (by kernel_rfl) (by kernel_rfl) (Nat.le_of_ble_eq_true (by kernel_rfl)) (fun _ _ _ h => h) (by rfl) ?hy13 (by assumption) ?rest13
              case hy13 => intro w hSw; (try dsimp only at hSw); simp only [List.getElem?_toArray, List.getElem?_cons_zero, List.getElem?_cons_succ]; go_simp; (try with_reducible rfl)
              try simp only [Act.put, List.setIfInBounds_toArray, List.set_cons_zero, List.set_cons_succ]
              refine wpHz_takenZ 13 111 ?v14 (by kernel_rfl) (by kernel_rfl) (by kernel_rfl) (by kernel_rfl) (Nat.le_of_ble_eq_true (by kernel_rfl)) (fun _ _ _ h => h) (by rfl) ?hy14 (by assumption) ?rest14
              case hy14 => intro w hSw; (try dsimp only at hSw); simp only [List.getElem?_toArray, List.getElem?_cons_zero, List.getElem?_cons_succ]; go_simp; (try with_reducible rfl)
              try simp only [Act.put, List.setIfInBounds_toArray, List.set_cons_zero, List.set_cons_succ]
              refine wpHz_takenZ 14 112 ?v15 (by kernel_rfl) (by kernel_rfl) (by kernel_rfl) (by kernel_rfl) (Nat.le_of_ble_eq_true (by kernel_rfl)) (fun _ _ _ h => h) (by rfl) ?hy15 (by assumption) ?rest15
              case hy15 => intro w hSw; (try dsimp only at hSw); simp only [List.getElem?_toArray, List.getElem?_cons_zero, List.getElem?_cons_succ]; go_simp; (try with_reducible rfl)
              try simp only [Act.put, List.setIfInBounds_toArray, List.set_cons_zero, List.set_cons_succ]
              refine wpHz_takenZ 15 113 ?v16 (by kernel_rfl) (by kernel_rfl) (by kernel_rfl) (by kernel_rfl) (Nat.le_of_ble_eq_true (by kernel_rfl)) (fun _ _ _ h => h) (by rfl) ?hy16 (by assumption) ?rest16
              case hy16 => intro w hSw; (try dsimp only at hSw); simp only [List.getElem?_toArray, List.getElem?_cons_zero, List.getElem?_cons_succ]; go_simp; (try with_reducible rfl)
              try simp only [Act.put, List.setIfInBounds_toArray, List.set_cons_zero, List.set_cons_succ]
              refine wpHz_takenZ 16 114 ?v17 (by kernel_rfl) (by kernel_rfl) (by kernel_rfl) (by kernel_rfl) (Nat.le_of_ble_eq_true (by kernel_rfl)) (fun _ _ _ h => h) (by rfl) ?hy17 (by assumption) ?rest17
              case hy17 => intro w hSw; (try dsimp only at hSw); simp only [List.getElem?_toArray, List.getElem?_cons_zero, List.getElem?_cons_succ]; go_simp; (try with_reducible rfl)
              try simp only [Act.put, List.setIfInBounds_toArray, List.set_cons_zero, List.set_cons_succ]
              refine wpHz_takenZ 17 115 ?v18 (by kernel_rfl) (by kernel_rfl) (by kernel_rfl) (by kernel_rfl) (Nat.le_of_ble_eq_true (by kernel_rfl)) (fun _ _ _ h => h) (by rfl) ?hy18 (by assumption) ?rest18
              case hy18 => intro w hSw; (try dsimp only at hSw); simp only [List.getElem?_toArray, List.getElem?_cons_zero, List.getElem?_cons_succ]; go_simp; (try with_reducible rfl)
              try simp only [Act.put, List.setIfInBounds_toArray, List.set_cons_zero, List.set_cons_succ]
              as_aux_lemma =>
                refine wpHz_one 18 (by kernel_rfl) (by rfl) (fun K hK => ?_)
                simp only [List.getElem?_toArray, List.getElem?_cons_zero, List.getElem?_cons_succ]
                go_wp2_with (go_at_call 12; refine (HSame2.out _ (by first | (rw [if_neg hrc]; done) | (rw [if_pos hrc, hrc, Nat.sub_self]; done) | (simp [hrc]; done))).mono ?_; rintro e' w13 ⟨rfl, rfl⟩)
                clear hHeld
                refine hK.out _ _ (fun _ => hS0) (fun hHeld => ?_)
                replace hHeld := hHeld (by decide)
                clear hK K
                try simp only [Act.put, List.setIfInBounds_toArray, List.set_cons_zero, List.set_cons_succ]
                refine wpHz_takenZ 19 117 ?v20 (by kernel_rfl) (by kernel_rfl) (by kernel_rfl) (by kernel_rfl) (Nat.le_of_ble_eq_true (by kernel_rfl)) (fun _ _ _ h => h) (by rfl) ?hy20 (by assumption) ?rest20
                case hy20 => intro w hSw; (try dsimp only at hSw); simp only [List.getElem?_toArray, List.getElem?_cons_zero, List.getElem?_cons_succ]; go_simp; (try with_reducible rfl)
                try simp only [Act.put, List.setIfInBounds_toArray, List.set_cons_zero, List.set_cons_succ]
                refine wpHz_takenZ 20 118 ?v21 (by kernel_rfl) (by kernel_rfl) (by kernel_rfl) (by kernel_rfl) (Nat.le_of_ble_eq_true (by kernel_rfl)) (fun _ _ _ h => h) (by rfl) ?hy21 (by assumption) ?rest21
                case hy21 => intro w hSw; (try dsimp only at hSw); simp only [List.getElem?_toArray, List.getElem?_cons_zero, List.getElem?_cons_succ]; go_simp; (try with_reducible rfl)
                try simp only [Act.put, List.setIfInBounds_toArray, List.set_cons_zero, List.set_cons_succ]
                refine wpHz_takenZ 21 119 ?v22 (by kernel_rfl) (by kernel_rfl) (by kernel_rfl) (by kernel_rfl) (Nat.le_of_ble_eq_true (by kernel_rfl)) (fun _ _ _ h => h) (by rfl) ?hy22 (by assumption) ?rest22
                case hy22 => intro w hSw; (try dsimp only at hSw); simp only [List.getElem?_toArray, List.getElem?_cons_zero, List.getElem?_cons_succ]; go_simp; (try with_reducible rfl)
                try simp only [Act.put, List.setIfInBounds_toArray, List.set_cons_zero, List.set_cons_succ]
                refine wpHz_takenZ 22 120 ?v23 (by kernel_rfl) (by kernel_rfl) (by kernel_rfl) (by kernel_rfl) (Nat.le_of_ble_eq_true (by kernel_rfl)) (fun _ _ _ h => h) (by rfl) ?hy23 (by assumption) ?rest23
                case hy23 => intro w hSw; (try dsimp only at hSw); simp only [List.getElem?_toArray, List.getElem?_cons_zero, List.getElem?_cons_succ]; go_simp; (try with_reducible rfl)
                try simp only [Act.put, List.setIfInBounds_toArray, List.set_cons_zero, List.set_cons_succ]
                refine wpHz_takenZ 24 122 ?v24 (by kernel_rfl) (by kernel_rfl) (by kernel_rfl) (by kernel_rfl) (Nat.le_of_ble_eq_true (by kernel_rfl)) (fun _ _ _ h => h) (by rfl) ?hy24 (by assumption) ?rest24
                case hy24 => intro w hSw; (try dsimp only at hSw); simp only [List.getElem?_toArray, List.getElem?_cons_zero, List.getElem?_cons_succ]; go_simp; (try with_reducible rfl)
                try simp only [Act.put, List.setIfInBounds_toArray, List.set_cons_zero, List.set_cons_succ]
                refine wpHz_takenZ 25 123 ?v25 (by kernel_rfl) (by kernel_rfl) (by kernel_rfl) (by kernel_rfl) (Nat.le_of_ble_eq_true (by kernel_rfl)) (fun _ _ _ h => h) (by rfl) ?hy25 (by assumption) ?rest25
                case hy25 => intro w hSw; (try dsimp only at hSw); simp only [List.getElem?_toArray, List.getElem?_cons_zero, List.getElem?_cons_succ]; go_simp; (try with_reducible rfl)
                try simp only [Act.put, List.setIfInBounds_toArray, List.set_cons_zero, List.set_cons_succ]
                as_aux_lemma =>
                  refine wpHz_one 23 (by kernel_rfl) (by rfl) (fun K hK => ?_)
                  simp only [List.getElem?_toArray, List.getElem?_cons_zero, List.getElem?_cons_succ]
                  go_wp2_with (go_at_call 14; refine HdnH.out.mono ?_; rintro e' w13 ⟨rfl, rfl⟩)
                  clear hHeld
                  refine hK.out _ _ (fun _ => hS0) (fun hHeld => ?_)
                  replace hHeld := hHeld (by decide)
                  clear hK K
                  try simp only [Act.put, List.setIfInBounds_toArray, List.set_cons_zero, List.set_cons_succ]
                  refine wpHz_takenZ 26 124 ?v27 (by kernel_rfl) (by kernel_rfl) (by kernel_rfl) (by kernel_rfl) (Nat.le_of_ble_eq_true (by kernel_rfl)) (fun _ _ _ h => h) (by rfl) ?hy27 (by assumption) ?rest27
                  case hy27 => intro w hSw; (try dsimp only at hSw); simp only [List.getElem?_toArray, List.getElem?_cons_zero, List.getElem?_cons_succ]; go_simp; (try with_reducible rfl)
                  try simp only [Act.put, List.setIfInBounds_toArray, List.set_cons_zero, List.set_cons_succ]
                  refine wpHz_takenZ 27 125 ?v28 (by kernel_rfl) (by kernel_rfl) (by kernel_rfl) (by kernel_rfl) (Nat.le_of_ble_eq_true (by kernel_rfl)) (fun _ _ _ h => h) (by rfl) ?hy28 (by assumption) ?rest28
                  case hy28 => intro w hSw; (try dsimp only at hSw); simp only [List.getElem?_toArray, List.getElem?_cons_zero, List.getElem?_cons_succ]; go_simp; (try with_reducible rfl)
                  try simp only [Act.put, List.setIfInBounds_toArray, List.set_cons_zero, List.set_cons_succ]
                  refine wpHz_takenZ 28 126 ?v29 (by kernel_rfl) (by kernel_rfl) (by kernel_rfl) (by kernel_rfl) (Nat.le_of_ble_eq_true (by kernel_rfl)) (fun _ _ _ h => h) (by rfl) ?hy29 (by assumption) ?rest29
                  case hy29 => intro w hSw; (try dsimp only at hSw); simp only [List.getElem?_toArray, List.getElem?_cons_zero, List.getElem?_cons_succ]; go_simp; (try with_reducible rfl)
                  try simp only [Act.put, List.setIfInBounds_toArray, List.set_cons_zero, List.set_cons_succ]
                  refine wpHz_takenZ 29 127 ?v30 (by kernel_rfl) (by kernel_rfl) (by kernel_rfl) (by kernel_rfl) (Nat.le_of_ble_eq_true (by kernel_rfl)) (fun _ _ _ h => h) (by rfl) ?hy30 (by assumption) ?rest30
                  case hy30 => intro w hSw; (try dsimp only at hSw); simp only [List.getElem?_toArray, List.getElem?_cons_zero, List.getElem?_cons_succ]; go_simp; (try with_reducible rfl)
                  try simp only [Act.put, List.setIfInBounds_toArray, List.set_cons_zero, List.set_cons_succ]
                  refine wpHz_takenZ 31 129 ?v31 (by kernel_rfl) (by kernel_rfl) (by kernel_rfl) (by kernel_rfl) (Nat.le_of_ble_eq_true (by kernel_rfl)) (fun _ _ _ h => h) (by rfl) ?hy31 (by assumption) ?rest31
                  case hy31 => intro w hSw; (try dsimp only at hSw); simp only [List.getElem?_toArray, List.getElem?_cons_zero, List.getElem?_cons_succ]; go_simp; (try with_reducible rfl)
                  try simp only [Act.put, List.setIfInBounds_toArray, List.set_cons_zero, List.set_cons_succ]
                  refine wpHz_takenZ 32 130 ?v32 (by kernel_rfl) (by kernel_rfl) (by kernel_rfl) (by kernel_rfl) (Nat.le_of_ble_eq_true (by kernel_rfl)) (fun _ _ _ h => h) (by rfl) ?hy32 (by assumption) ?rest32
                  case hy32 => intro w hSw; (try dsimp only at hSw); simp only [List.getElem?_toArray, List.getElem?_cons_zero, List.getElem?_cons_succ]; go_simp; (try with_reducible rfl)
                  try simp only [Act.put, List.setIfInBounds_toArray, List.set_cons_zero, List.set_cons_succ]
                  as_aux_lemma =>
                    refine wpHz_one 30 (by kernel_rfl) (by rfl) (fun K hK => ?_)
                    simp only [List.getElem?_toArray, List.getElem?_cons_zero, List.getElem?_cons_succ]
                    go_wp2_with (go_at_call 15; refine HrsA.out.mono ?_; rintro e' w14 ⟨v1, rfl, hS14⟩; obtain ⟨_, s1, s2, rfl, -, -, -, -⟩ := hS14.at_ 0 _ rfl)
                    have hS15c := blk4_cells (Sat.front hS14 2 _ rfl)
                    have HsC := same_d hS14.sl_read (Hrd.out _ (Sat.perm (As := [_, _, _, _, _, _, _]) hS14 [4, 5, 1, 6] [_, _, _, _] rfl (by simp)))
                    rw [beq_self_eq_true] at HsC
                    have HsC := Lib.hid HsC
                    have Htt := Lib.hid (zTotal_any (Sat.front hS14 1 _ rfl))
                    have HS15 := Lib.hid hS14
                    clear hS14
                    clear hHeld
                    refine hK.out _ _ (fun _ => hS15c) (fun hHeld => ?_)
                    replace hHeld := hHeld (by decide)
                    clear hK K
                    try simp only [Act.put, List.setIfInBounds_toArray, List.set_cons_zero, List.set_cons_succ]
                    refine wpHz_one 33 (by kernel_rfl) (by rfl) (fun K hK => ?_)
                    simp only [List.getElem?_toArray, List.getElem?_cons_zero, List.getElem?_cons_succ]
                    go_wp2_with (go_at_call 12; refine HsC.out.mono ?_; rintro e' w16 ⟨rfl, rfl⟩)
                    clear hHeld
                    refine hK.out _ _ (fun _ => hS15c) (fun hHeld => ?_)
                    replace hHeld := hHeld (by decide)
                    clear hK K
                    try simp only [Act.put, List.setIfInBounds_toArray, List.set_cons_zero, List.set_cons_succ]
                    refine wpHz_takenZ 34 132 ?v35 (by kernel_rfl) (by kernel_rfl) (by kernel_rfl) (by kernel_rfl) (Nat.le_of_ble_eq_true (by kernel_rfl)) (fun _ _ _ h => h) (by rfl) ?hy35 (by assumption) ?rest35
                    case hy35 => intro w hSw; (try dsimp only at hSw); simp only [List.getElem?_toArray, List.getElem?_cons_zero, List.getElem?_cons_succ]; go_simp; (try with_reducible rfl)
                    try simp only [Act.put, List.setIfInBounds_toArray, List.set_cons_zero, List.set_cons_succ]
                    refine wpHz_takenZ 35 133 ?v36 (by kernel_rfl) (by kernel_rfl) (by kernel_rfl) (by kernel_rfl) (Nat.le_of_ble_eq_true (by kernel_rfl)) (fun _ _ _ h => h) (by rfl) ?hy36 (by assumption) ?rest36
                    case hy36 => intro w hSw; (try dsimp only at hSw); simp only [List.getElem?_toArray, List.getElem?_cons_zero, List.getElem?_cons_succ]; go_simp; (try with_reducible rfl)
                    try simp only [Act.put, List.setIfInBounds_toArray, List.set_cons_zero, List.set_cons_succ]
                    refine wpHz_takenZ 36 134 ?v37 (by kernel_rfl) (by kernel_rfl) (by kernel_rfl) (by kernel_rfl) (Nat.le_of_ble_eq_true (by kernel_rfl)) (fun _ _ _ h => h) (by rfl) ?hy37 (by assumption) ?rest37
                    case hy37 => intro w hSw; (try dsimp only at hSw); simp only [List.getElem?_toArray, List.getElem?_cons_zero, List.getElem?_cons_succ]; go_simp; (try with_reducible rfl)
                    try simp only [Act.put, List.setIfInBounds_toArray, List.set_cons_zero, List.set_cons_succ]
                    refine wpHz_takenZ 37 135 ?v38 (by kernel_rfl) (by kernel_rfl) (by kernel_rfl) (by kernel_rfl) (Nat.le_of_ble_eq_true (by kernel_rfl)) (fun _ _ _ h => h) (by rfl) ?hy38 (by assumption) ?rest38
                    case hy38 => intro w hSw; (try dsimp only at hSw); simp only [List.getElem?_toArray, List.getElem?_cons_zero, List.getElem?_cons_succ]; go_simp; (try with_reducible rfl)
                    try simp only [Act.put, List.setIfInBounds_toArray, List.set_cons_zero, List.set_cons_succ]
                    refine wpHz_takenZ 39 137 ?v39 (by kernel_rfl) (by kernel_rfl) (by kernel_rfl) (by kernel_rfl) (Nat.le_of_ble_eq_true (by kernel_rfl)) (fun _ _ _ h => h) (by rfl) ?hy39 (by assumption) ?rest39
                    case hy39 => intro w hSw; (try dsimp only at hSw); simp only [List.getElem?_toArray, List.getElem?_cons_zero, List.getElem?_cons_succ]; go_simp; (try with_reducible rfl)
                    try simp only [Act.put, List.setIfInBounds_toArray, List.set_cons_zero, List.set_cons_succ]
                    refine wpHz_takenZ 40 138 ?v40 (by kernel_rfl) (by kernel_rfl) (by kernel_rfl) (by kernel_rfl) (Nat.le_of_ble_eq_true (by kernel_rfl)) (fun _ _ _ h => h) (by rfl) ?hy40 (by assumption) ?rest40
                    case hy40 => intro w hSw; (try dsimp only at hSw); simp only [List.getElem?_toArray, List.getElem?_cons_zero, List.getElem?_cons_succ]; go_simp; (try with_reducible rfl)
                    try simp only [Act.put, List.setIfInBounds_toArray, List.set_cons_zero, List.set_cons_succ]
                    refine wpHz_takenZ 41 139 ?v41 (by kernel_rfl) (by kernel_rfl) (by kernel_rfl) (by kernel_rfl) (Nat.le_of_ble_eq_true (by kernel_rfl)) (fun _ _ _ h => h) (by rfl) ?hy41 (by assumption) ?rest41
                    case hy41 => intro w hSw; (try dsimp only at hSw); simp only [List.getElem?_toArray, List.getElem?_cons_zero, List.getElem?_cons_succ]; go_simp; (try with_reducible rfl)
                    try simp only [Act.put, List.setIfInBounds_toArray, List.set_cons_zero, List.set_cons_succ]
                    as_aux_lemma =>
                      refine wpHz_one 38 (by kernel_rfl) (by rfl) (fun K hK => ?_)
                      simp only [List.getElem?_toArray, List.getElem?_cons_zero, List.getElem?_cons_succ]
                      go_wp2_with (go_at_call 18; refine Htt.out.mono ?_; rintro e' w16 ⟨rfl, rfl⟩)
                      clear hHeld
                      refine hK.out _ _ (fun _ => hS15c) (fun hHeld => ?_)
                      replace hHeld := hHeld (by decide)
                      clear hK K
                      try simp only [Act.put, List.setIfInBounds_toArray, List.set_cons_zero, List.set_cons_succ]
                      refine wpHz_takenZ 42 140 ?v43 (by kernel_rfl) (by kernel_rfl) (by kernel_rfl) (by kernel_rfl) (Nat.le_of_ble_eq_true (by kernel_rfl)) (fun _ _ _ h => h) (by rfl) ?hy43 (by assumption) ?rest43
                      case hy43 => intro w hSw; (try dsimp only at hSw); simp only [List.getElem?_toArray, List.getElem?_cons_zero, List.getElem?_cons_succ]; go_simp; (try with_reducible rfl)
                      try simp only [Act.put, List.setIfInBounds_toArray, List.set_cons_zero, List.set_cons_succ]
                      refine wpHz_takenZ 43 141 ?v44 (by kernel_rfl) (by kernel_rfl) (by kernel_rfl) (by kernel_rfl) (Nat.le_of_ble_eq_true (by kernel_rfl)) (fun _ _ _ h => h) (by rfl) ?hy44 (by assumption) ?rest44
                      case hy44 => intro w hSw; (try dsimp only at hSw); simp only [List.getElem?_toArray, List.getElem?_cons_zero, List.getElem?_cons_succ]; go_simp; (try with_reducible rfl)
                      try simp only [Act.put, List.setIfInBounds_toArray, List.set_cons_zero, List.set_cons_succ]
                      refine wpHz_done (by kernel_rfl) ?_ _
                      have q2c := hS15c.1
                      clear hS15c hS0 hHeld HsC Htt HSame2 HdnH Hcl HrsA Hrd
                      clear Hpl
                      go_wp2
                      refine ⟨⟨k + 1, E, q2, _, by omega, hEy, vi (by omega), rfl, rfl, rfl, ?_, HT2.out, Sat.perm (As := [_, _, _, _, _, _, _]) HS15.out [1] [_] rfl (by simp)⟩, by simp [intOf] <;> omega⟩
                      unfold Hid
                      rw [Bool.eq_iff_iff]
                      simp
          · as_aux_lemma =>
              have HSame2 : Hid (∀ x, x = .slice (if rocap = q.q.hist.length then roo else Option.map (fun x => x.add q.q.hist.length) roo) (q2.q.hist.length - q.q.hist.length) (rocap - q.q.hist.length) → Calls Tryz.prog 12 #[.slice xo nw.length xap, x] W8.drew fun e' w' => e' = .returned (.bool true) ∧ w' = W8.drew) := HSame
              clear HSame
              refine wp_region_hz (z := 1000) (S := fun w' => w'.cell? ⟨pr, 0, none⟩ = some (.slice roo q2.q.hist.length rocap) ∧ w'.cell? ⟨pr, 1, none⟩ = some (.slice ro8 q2.rest.length rap8) ∧ w'.cell? ⟨pr, 2, none⟩ = some (.int .i64 (e8 : Nat)) ∧ w'.cell? ⟨pr, 3, none⟩ = some (.bool q2.done)) (by kernel_rfl) hS0 (fun hHeld => ?_)
              refine wpHz_takenZ 0 98 ?v45 (by kernel_rfl) (by kernel_rfl) (by kernel_rfl) (by kernel_rfl) (Nat.le_of_ble_eq_true (by kernel_rfl)) (fun _ _ _ h => h) (by rfl) ?hy45 (by assumption) ?rest45
              case hy45 => intro w hSw; (try dsimp only at hSw); simp only [List.getElem?_toArray, List.getElem?_cons_zero, List.getElem?_cons_succ]; go_simp; (try with_reducible rfl)
              try simp only [Act.put, List.setIfInBounds_toArray, List.set_cons_zero, List.set_cons_succ]
              refine wpHz_takenZ 1 99 ?v46 (by kernel_rfl) (by kernel_rfl) (by kernel_rfl) (by kernel_rfl) (Nat.le_of_ble_eq_true (by kernel_rfl)) (fun _ _ _ h => h) (by rfl) ?hy46 (by assumption) ?rest46
              case hy46 => intro w hSw; (try dsimp only at hSw); simp only [List.getElem?_toArray, List.getElem?_cons_zero, List.getElem?_cons_succ]; go_simp; (try with_reducible rfl)
              try simp only [Act.put, List.setIfInBounds_toArray, List.set_cons_zero, List.set_cons_succ]
              refine wpHz_takenZ 2 100 ?v47 (by kernel_rfl) (by kernel_rfl) (by kernel_rfl) (by kernel_rfl) (Nat.le_of_ble_eq_true (by kernel_rfl)) (fun _ _ _ h => h) (by rfl) ?hy47 (by assumption) ?rest47
              case hy47 => intro w hSw; (try dsimp only at hSw); simp only [List.getElem?_toArray, List.getElem?_cons_zero, List.getElem?_cons_succ]; go_simp; (try with_reducible rfl)
              try simp only [Act.put, List.setIfInBounds_toArray, List.set_cons_zero, List.set_cons_succ]
              refine wpHz_one 3 (by kernel_rfl) (by rfl) (fun K hK => ?_)
              simp only [List.getElem?_toArray, List.getElem?_cons_zero, List.getElem?_cons_succ]
              go_wp2_with (go_at_call 9; refine Hcl.out.mono ?_; rintro e' w13 ⟨rfl, rfl⟩)
              clear hHeld
              refine hK.out _ _ (fun _ => hS0) (fun hHeld => ?_)
              replace hHeld := hHeld (by decide)
              clear hK K
              try simp only [Act.put, List.setIfInBounds_toArray, List.set_cons_zero, List.set_cons_succ]
              refine wpHz_takenZ 4 102 ?v49 (by kernel_rfl) (by kernel_rfl) (by kernel_rfl) (by kernel_rfl) (Nat.le_of_ble_eq_true (by kernel_rfl)) (fun _ _ _ h => h) (by rfl) ?hy49 (by assumption) ?rest49
              case hy49 => intro w hSw; (try dsimp only at hSw); simp only [List.getElem?_toArray, List.getElem?_cons_zero, List.getElem?_cons_succ]; go_simp; (try with_reducible rfl)
              try simp only [Act.put, List.setIfInBounds_toArray, List.set_cons_zero, List.set_cons_succ]
              refine wpHz_takenZ 5 103 ?v50 (by kernel_rfl) (by kernel_rfl) (by kernel_rfl) (by kernel_rfl) (Nat.le_of_ble_eq_true (by kernel_rfl)) (fun _ _ _ h => h) (by rfl) ?hy50 (by assumption) ?rest50
              case hy50 => intro w hSw; (try dsimp only at hSw); simp only [List.getElem?_toArray, List.getElem?_cons_zero, List.getElem?_cons_succ]; go_simp; (try with_reducible rfl)
              try simp only [Act.put, List.setIfInBounds_toArray, List.set_cons_zero, List.set_cons_succ]
              refine wpHz_takenZ 6 104 ?v51 (by kernel_rfl) (by kernel_rfl) (by kernel_rfl) (by kernel_rfl) (Nat.le_of_ble_eq_true (by kernel_rfl)) (fun _ _ _ h => h) (by rfl) ?hy51 (by assumption) ?rest51
              case hy51 => intro w hSw; (try dsimp only at hSw); simp only [List.getElem?_toArray, List.getElem?_cons_zero, List.getElem?_cons_succ]; go_simp; (try with_reducible rfl)
              try simp only [Act.put, List.setIfInBounds_toArray, List.set_cons_zero, List.set_cons_succ]
              refine wpHz_takenZ 7 105 ?v52 (by kernel_rfl) (by kernel_rfl) (by kernel_rfl) (by kernel_rfl) (Nat.le_of_ble_eq_true (by kernel_rfl)) (fun _ _ _ h => h) (by rfl) ?hy52 (by assumption) ?rest52
              case hy52 => intro w hSw; (try dsimp only at hSw); simp only [List.getElem?_toArray, List.getElem?_cons_zero, List.getElem?_cons_succ]; go_simp; (try with_reducible rfl)
              try simp only [Act.put, List.setIfInBounds_toArray, List.set_cons_zero, List.set_cons_succ]
              refine wpHz_takenZ 8 106 ?v53 (by kernel_rfl) (by kernel_rfl) (by kernel_rfl) (by kernel_rfl) (Nat.le_of_ble_eq_true (by kernel_rfl)) (fun _ _ _ h => h) (by rfl) ?hy53 (by assumption) ?rest53
              case hy53 => intro w hSw; (try dsimp only at hSw); simp only [List.getElem?_toArray, List.getElem?_cons_zero, List.getElem?_cons_succ]; go_simp; (try with_reducible rfl)
              try simp only [Act.put, List.setIfInBounds_toArray, List.set_cons_zero, List.set_cons_succ]
              refine wpHz_takenZ 9 107 ?v54 (by kernel_rfl) (by kernel_rfl) (by kernel_rfl) (by kernel_rfl) (Nat.le_of_ble_eq_true (by kernel_rfl)) (fun _ _ _ h => h) (by rfl) ?hy54 (by assumption) ?rest54
              case hy54 => intro w hSw; (try dsimp only at hSw); simp only [List.getElem?_toArray, List.getElem?_cons_zero, List.getElem?_cons_succ]; go_simp; (try with_reducible rfl)
              try simp only [Act.put, List.setIfInBounds_toArray, List.set_cons_zero, List.set_cons_succ]
              refine wpHz_takenZ 10 108 ?v55 (by kernel_rfl) (by kernel_rfl) (by kernel_rfl) (by kernel_rfl) (Nat.le_of_ble_eq_true (by kernel_rfl)) (fun _ _ _ h => h) (by rfl) ?hy55 (by assumption) ?rest55
              case hy55 => intro w hSw; (try dsimp only at hSw); simp only [List.getElem?_toArray, List.getElem?_cons_zero, List.getElem?_cons_succ]; go_simp; (try with_reducible rfl)
              try simp only [Act.put, List.setIfInBounds_toArray, List.set_cons_zero, List.set_cons_succ]
              refine wpHz_takenZ 11 109 ?v56 (by kernel_rfl) (by kernel_rfl) (by kernel_rfl) (by kernel_rfl) (Nat.le_of_ble_eq_true (by kernel_rfl)) (fun _ _ _ h => h) (by rfl) ?hy56 (by assumption) ?rest56
              case hy56 => intro w hSw; (try dsimp only at hSw); simp only [List.getElem?_toArray, List.getElem?_cons_zero, List.getElem?_cons_succ]; go_simp; (try with_reducible rfl)
              try simp only [Act.put, List.setIfInBounds_toArray, List.set_cons_zero, List.set_cons_succ]
              refine wpHz_takenZ 12 110 ?v57 (by kernel_rfl) (by kernel_rfl) (by kernel_rfl) (by kernel_rfl) (Nat.le_of_ble_eq_true (by kernel_rfl)) (fun _ _ _ h => h) (by rfl) ?hy57 (by assumption) ?rest57
              case hy57 => intro w hSw; (try dsimp only at hSw); simp only [List.getElem?_toArray, List.getElem?_cons_zero, List.getElem?_cons_succ]; go_simp; (try with_reducible rfl)
              try simp only [Act.put, List.setIfInBounds_toArray, List.set_cons_zero, List.set_cons_succ]
              refine wpHz_takenZ 13 111 ?v58 (by kernel_rfl) (by kernel_rfl) (by kernel_rfl) (by kernel_rfl) (Nat.le_of_ble_eq_true (by kernel_rfl)) (fun _ _ _ h => h) (by rfl) ?hy58 (by assumption) ?rest58
              case hy58 => intro w hSw; (try dsimp only at hSw); simp only [List.getElem?_toArray, List.getElem?_cons_zero, List.getElem?_cons_succ]; go_simp; (try with_reducible rfl)
              try simp only [Act.put, List.setIfInBounds_toArray, List.set_cons_zero, List.set_cons_succ]
              refine wpHz_takenZ 14 112 ?v59 (by kernel_rfl) (by kernel_rfl) (by kernel_rfl) (by kernel_rfl) (Nat.le_of_ble_eq_true (by kernel_rfl)) (fun _ _ _ h => h) (by rfl) ?hy59 (by assumption) ?rest59
              case hy59 => intro w hSw; (try dsimp only at hSw); simp only [List.getElem?_toArray, List.getElem?_cons_zero, List.getElem?_cons_succ]; go_simp; (try with_reducible rfl)
              try simp only [Act.put, List.setIfInBounds_toArray, List.set_cons_zero, List.set_cons_succ]
              refine wpHz_takenZ 15 113 ?v60 (by kernel_rfl) (by kernel_rfl) (by kernel_rfl) (by kernel_rfl) (Nat.le_of_ble_eq_true (by kernel_rfl)) (fun _ _ _ h => h) (by rfl) ?hy60 (by assumption) ?rest60
              case hy60 => intro w hSw; (try dsimp only at hSw); simp only [List.getElem?_toArray, List.getElem?_cons_zero, List.getElem?_cons_succ]; go_simp; (try with_reducible rfl)
              try simp only [Act.put, List.setIfInBounds_toArray, List.set_cons_zero, List.set_cons_succ]
              refine wpHz_takenZ 16 114 ?v61 (by kernel_rfl) (by kernel_rfl) (by kernel_rfl) (by kernel_rfl) (Nat.le_of_ble_eq_true (by kernel_rfl)) (fun _ _ _ h => h) (by rfl) ?hy61 (by assumption) ?rest61
              case hy61 => intro w hSw; (try dsimp only at hSw); simp only [List.getElem?_toArray, List.getElem?_cons_zero, List.getElem?_cons_succ]; go_simp; (try with_reducible rfl)
              try simp only [Act.put, List.setIfInBounds_toArray, List.set_cons_zero, List.set_cons_succ]
              refine wpHz_takenZ 17 115 ?v62 (by kernel_rfl) (by kernel_rfl) (by kernel_rfl) (by kernel_rfl) (Nat.le_of_ble_eq_true (by kernel_rfl)) (fun _ _ _ h => h) (by rfl) ?hy62 (by assumption) ?rest62
              case hy62 => intro w hSw; (try dsimp only at hSw); simp only [List.getElem?_toArray, List.getElem?_cons_zero, List.getElem?_cons_succ]; go_simp; (try with_reducible rfl)
              try simp only [Act.put, List.setIfInBounds_toArray, List.set_cons_zero, List.set_cons_succ]
              as_aux_lemma =>
                refine wpHz_one 18 (by kernel_rfl) (by rfl) (fun K hK => ?_)
                simp only [List.getElem?_toArray, List.getElem?_cons_zero, List.getElem?_cons_succ]
                go_wp2_with (go_at_call 12; refine (HSame2.out _ (by first | (rw [if_neg hrc]; done) | (rw [if_pos hrc, hrc, Nat.sub_self]; done) | (simp [hrc]; done))).mono ?_; rintro e' w13 ⟨rfl, rfl⟩)
                clear hHeld
                refine hK.out _ _ (fun _ => hS0) (fun hHeld => ?_)
                replace hHeld := hHeld (by decide)
                clear hK K
                try simp only [Act.put, List.setIfInBounds_toArray, List.set_cons_zero, List.set_cons_succ]
                refine wpHz_takenZ 19 117 ?v64 (by kernel_rfl) (by kernel_rfl) (by kernel_rfl) (by kernel_rfl) (Nat.le_of_ble_eq_true (by kernel_rfl)) (fun _ _ _ h => h) (by rfl) ?hy64 (by assumption) ?rest64
                case hy64 => intro w hSw; (try dsimp only at hSw); simp only [List.getElem?_toArray, List.getElem?_cons_zero, List.getElem?_cons_succ]; go_simp; (try with_reducible rfl)
                try simp only [Act.put, List.setIfInBounds_toArray, List.set_cons_zero, List.set_cons_succ]
                refine wpHz_takenZ 20 118 ?v65 (by kernel_rfl) (by kernel_rfl) (by kernel_rfl) (by kernel_rfl) (Nat.le_of_ble_eq_true (by kernel_rfl)) (fun _ _ _ h => h) (by rfl) ?hy65 (by assumption) ?rest65
                case hy65 => intro w hSw; (try dsimp only at hSw); simp only [List.getElem?_toArray, List.getElem?_cons_zero, List.getElem?_cons_succ]; go_simp; (try with_reducible rfl)
                try simp only [Act.put, List.setIfInBounds_toArray, List.set_cons_zero, List.set_cons_succ]
                refine wpHz_takenZ 21 119 ?v66 (by kernel_rfl) (by kernel_rfl) (by kernel_rfl) (by kernel_rfl) (Nat.le_of_ble_eq_true (by kernel_rfl)) (fun _ _ _ h => h) (by rfl) ?hy66 (by assumption) ?rest66
                case hy66 => intro w hSw; (try dsimp only at hSw); simp only [List.getElem?_toArray, List.getElem?_cons_zero, List.getElem?_cons_succ]; go_simp; (try with_reducible rfl)
                try simp only [Act.put, List.setIfInBounds_toArray, List.set_cons_zero, List.set_cons_succ]
                refine wpHz_takenZ 22 120 ?v67 (by kernel_rfl) (by kernel_rfl) (by kernel_rfl) (by kernel_rfl) (Nat.le_of_ble_eq_true (by kernel_rfl)) (fun _ _ _ h => h) (by rfl) ?hy67 (by assumption) ?rest67
                case hy67 => intro w hSw; (try dsimp only at hSw); simp only [List.getElem?_toArray, List.getElem?_cons_zero, List.getElem?_cons_succ]; go_simp; (try with_reducible rfl)
                try simp only [Act.put, List.setIfInBounds_toArray, List.set_cons_zero, List.set_cons_succ]
                refine wpHz_takenZ 24 122 ?v68 (by kernel_rfl) (by kernel_rfl) (by kernel_rfl) (by kernel_rfl) (Nat.le_of_ble_eq_true (by kernel_rfl)) (fun _ _ _ h => h) (by rfl) ?hy68 (by assumption) ?rest68
                case hy68 => intro w hSw; (try dsimp only at hSw); simp only [List.getElem?_toArray, List.getElem?_cons_zero, List.getElem?_cons_succ]; go_simp; (try with_reducible rfl)
                try simp only [Act.put, List.setIfInBounds_toArray, List.set_cons_zero, List.set_cons_succ]
                refine wpHz_takenZ 25 123 ?v69 (by kernel_rfl) (by kernel_rfl) (by kernel_rfl) (by kernel_rfl) (Nat.le_of_ble_eq_true (by kernel_rfl)) (fun _ _ _ h => h) (by rfl) ?hy69 (by assumption) ?rest69
                case hy69 => intro w hSw; (try dsimp only at hSw); simp only [List.getElem?_toArray, List.getElem?_cons_zero, List.getElem?_cons_succ]; go_simp; (try with_reducible rfl)
                try simp only [Act.put, List.setIfInBounds_toArray, List.set_cons_zero, List.set_cons_succ]
                as_aux_lemma =>
                  refine wpHz_one 23 (by kernel_rfl) (by rfl) (fun K hK => ?_)
                  simp only [List.getElem?_toArray, List.getElem?_cons_zero, List.getElem?_cons_succ]
                  go_wp2_with (go_at_call 14; refine HdnH.out.mono ?_; rintro e' w13 ⟨rfl, rfl⟩)
                  clear hHeld
                  refine hK.out _ _ (fun _ => hS0) (fun hHeld => ?_)
                  replace hHeld := hHeld (by decide)
                  clear hK K
                  try simp only [Act.put, List.setIfInBounds_toArray, List.set_cons_zero, List.set_cons_succ]
                  refine wpHz_takenZ 26 124 ?v71 (by kernel_rfl) (by kernel_rfl) (by kernel_rfl) (by kernel_rfl) (Nat.le_of_ble_eq_true (by kernel_rfl)) (fun _ _ _ h => h) (by rfl) ?hy71 (by assumption) ?rest71
                  case hy71 => intro w hSw; (try dsimp only at hSw); simp only [List.getElem?_toArray, List.getElem?_cons_zero, List.getElem?_cons_succ]; go_simp; (try with_reducible rfl)
                  try simp only [Act.put, List.setIfInBounds_toArray, List.set_cons_zero, List.set_cons_succ]
                  refine wpHz_takenZ 27 125 ?v72 (by kernel_rfl) (by kernel_rfl) (by kernel_rfl) (by kernel_rfl) (Nat.le_of_ble_eq_true (by kernel_rfl)) (fun _ _ _ h => h) (by rfl) ?hy72 (by assumption) ?rest72
                  case hy72 => intro w hSw; (try dsimp only at hSw); simp only [List.getElem?_toArray, List.getElem?_cons_zero, List.getElem?_cons_succ]; go_simp; (try with_reducible rfl)
                  try simp only [Act.put, List.setIfInBounds_toArray, List.set_cons_zero, List.set_cons_succ]
                  refine wpHz_takenZ 28 126 ?v73 (by kernel_rfl) (by kernel_rfl) (by kernel_rfl) (by kernel_rfl) (Nat.le_of_ble_eq_true (by kernel_rfl)) (fun _ _ _ h => h) (by rfl) ?hy73 (by assumption) ?rest73
                  case hy73 => intro w hSw; (try dsimp only at hSw); simp only [List.getElem?_toArray, List.getElem?_cons_zero, List.getElem?_cons_succ]; go_simp; (try with_reducible rfl)
                  try simp only [Act.put, List.setIfInBounds_toArray, List.set_cons_zero, List.set_cons_succ]
                  refine wpHz_takenZ 29 127 ?v74 (by kernel_rfl) (by kernel_rfl) (by kernel_rfl) (by kernel_rfl) (Nat.le_of_ble_eq_true (by kernel_rfl)) (fun _ _ _ h => h) (by rfl) ?hy74 (by assumption) ?rest74
                  case hy74 => intro w hSw; (try dsimp only at hSw); simp only [List.getElem?_toArray, List.getElem?_cons_zero, List.getElem?_cons_succ]; go_simp; (try with_reducible rfl)
                  try simp only [Act.put, List.setIfInBounds_toArray, List.set_cons_zero, List.set_cons_succ]
                  refine wpHz_takenZ 31 129 ?v75 (by kernel_rfl) (by kernel_rfl) (by kernel_rfl) (by kernel_rfl) (Nat.le_of_ble_eq_true (by kernel_rfl)) (fun _ _ _ h => h) (by rfl) ?hy75 (by assumption) ?rest75
                  case hy75 => intro w hSw; (try dsimp only at hSw); simp only [List.getElem?_toArray, List.getElem?_cons_zero, List.getElem?_cons_succ]; go_simp; (try with_reducible rfl)
                  try simp only [Act.put, List.setIfInBounds_toArray, List.set_cons_zero, List.set_cons_succ]
                  refine wpHz_takenZ 32 130 ?v76 (by kernel_rfl) (by kernel_rfl) (by kernel_rfl) (by kernel_rfl) (Nat.le_of_ble_eq_true (by kernel_rfl)) (fun _ _ _ h => h) (by rfl) ?hy76 (by assumption) ?rest76
                  case hy76 => intro w hSw; (try dsimp only at hSw); simp only [List.getElem?_toArray, List.getElem?_cons_zero, List.getElem?_cons_succ]; go_simp; (try with_reducible rfl)
                  try simp only [Act.put, List.setIfInBounds_toArray, List.set_cons_zero, List.set_cons_succ]
                  as_aux_lemma =>
                    refine wpHz_one 30 (by kernel_rfl) (by rfl) (fun K hK => ?_)
                    simp only [List.getElem?_toArray, List.getElem?_cons_zero, List.getElem?_cons_succ]
                    go_wp2_with (go_at_call 15; refine HrsA.out.mono ?_; rintro e' w14 ⟨v1, rfl, hS14⟩; obtain ⟨_, s1, s2, rfl, -, -, -, -⟩ := hS14.at_ 0 _ rfl)
                    have hS15c := blk4_cells (Sat.front hS14 2 _ rfl)
                    have HsC := same_d hS14.sl_read (Hrd.out _ (Sat.perm (As := [_, _, _, _, _, _, _]) hS14 [4, 5, 1, 6] [_, _, _, _] rfl (by simp)))
                    rw [beq_self_eq_true] at HsC
                    have HsC := Lib.hid HsC
                    have Htt := Lib.hid (zTotal_any (Sat.front hS14 1 _ rfl))
                    have HS15 := Lib.hid hS14
                    clear hS14
                    clear hHeld
                    refine hK.out _ _ (fun _ => hS15c) (fun hHeld => ?_)
                    replace hHeld := hHeld (by decide)
                    clear hK K
                    try simp only [Act.put, List.setIfInBounds_toArray, List.set_cons_zero, List.set_cons_succ]
                    refine wpHz_one 33 (by kernel_rfl) (by rfl) (fun K hK => ?_)
                    simp only [List.getElem?_toArray, List.getElem?_cons_zero, List.getElem?_cons_succ]
                    go_wp2_with (go_at_call 12; refine HsC.out.mono ?_; rintro e' w16 ⟨rfl, rfl⟩)
                    clear hHeld
                    refine hK.out _ _ (fun _ => hS15c) (fun hHeld => ?_)
                    replace hHeld := hHeld (by decide)
                    clear hK K
                    try simp only [Act.put, List.setIfInBounds_toArray, List.set_cons_zero, List.set_cons_succ]
                    refine wpHz_takenZ 34 132 ?v79 (by kernel_rfl) (by kernel_rfl) (by kernel_rfl) (by kernel_rfl) (Nat.le_of_ble_eq_true (by kernel_rfl)) (fun _ _ _ h => h) (by rfl) ?hy79 (by assumption) ?rest79
                    case hy79 => intro w hSw; (try dsimp only at hSw); simp only [List.getElem?_toArray, List.getElem?_cons_zero, List.getElem?_cons_succ]; go_simp; (try with_reducible rfl)
                    try simp only [Act.put, List.setIfInBounds_toArray, List.set_cons_zero, List.set_cons_succ]
                    refine wpHz_takenZ 35 133 ?v80 (by kernel_rfl) (by kernel_rfl) (by kernel_rfl) (by kernel_rfl) (Nat.le_of_ble_eq_true (by kernel_rfl)) (fun _ _ _ h => h) (by rfl) ?hy80 (by assumption) ?rest80
                    case hy80 => intro w hSw; (try dsimp only at hSw); simp only [List.getElem?_toArray, List.getElem?_cons_zero, List.getElem?_cons_succ]; go_simp; (try with_reducible rfl)
                    try simp only [Act.put, List.setIfInBounds_toArray, List.set_cons_zero, List.set_cons_succ]
                    refine wpHz_takenZ 36 134 ?v81 (by kernel_rfl) (by kernel_rfl) (by kernel_rfl) (by kernel_rfl) (Nat.le_of_ble_eq_true (by kernel_rfl)) (fun _ _ _ h => h) (by rfl) ?hy81 (by assumption) ?rest81
                    case hy81 => intro w hSw; (try dsimp only at hSw); simp only [List.getElem?_toArray, List.getElem?_cons_zero, List.getElem?_cons_succ]; go_simp; (try with_reducible rfl)
                    try simp only [Act.put, List.setIfInBounds_toArray, List.set_cons_zero, List.set_cons_succ]
                    refine wpHz_takenZ 37 135 ?v82 (by kernel_rfl) (by kernel_rfl) (by kernel_rfl) (by kernel_rfl) (Nat.le_of_ble_eq_true (by kernel_rfl)) (fun _ _ _ h => h) (by rfl) ?hy82 (by assumption) ?rest82
                    case hy82 => intro w hSw; (try dsimp only at hSw); simp only [List.getElem?_toArray, List.getElem?_cons_zero, List.getElem?_cons_succ]; go_simp; (try with_reducible rfl)
                    try simp only [Act.put, List.setIfInBounds_toArray, List.set_cons_zero, List.set_cons_succ]
                    refine wpHz_takenZ 39 137 ?v83 (by kernel_rfl) (by kernel_rfl) (by kernel_rfl) (by kernel_rfl) (Nat.le_of_ble_eq_true (by kernel_rfl)) (fun _ _ _ h => h) (by rfl) ?hy83 (by assumption) ?rest83
                    case hy83 => intro w hSw; (try dsimp only at hSw); simp only [List.getElem?_toArray, List.getElem?_cons_zero, List.getElem?_cons_succ]; go_simp; (try with_reducible rfl)
                    try simp only [Act.put, List.setIfInBounds_toArray, List.set_cons_zero, List.set_cons_succ]
                    refine wpHz_takenZ 40 138 ?v84 (by kernel_rfl) (by kernel_rfl) (by kernel_rfl) (by kernel_rfl) (Nat.le_of_ble_eq_true (by kernel_rfl)) (fun _ _ _ h => h) (by rfl) ?hy84 (by assumption) ?rest84
                    case hy84 => intro w hSw; (try dsimp only at hSw); simp only [List.getElem?_toArray, List.getElem?_cons_zero, List.getElem?_cons_succ]; go_simp; (try with_reducible rfl)
                    try simp only [Act.put, List.setIfInBounds_toArray, List.set_cons_zero, List.set_cons_succ]
                    refine wpHz_takenZ 41 139 ?v85 (by kernel_rfl) (by kernel_rfl) (by kernel_rfl) (by kernel_rfl) (Nat.le_of_ble_eq_true (by kernel_rfl)) (fun _ _ _ h => h) (by rfl) ?hy85 (by assumption) ?rest85
                    case hy85 => intro w hSw; (try dsimp only at hSw); simp only [List.getElem?_toArray, List.getElem?_cons_zero, List.getElem?_cons_succ]; go_simp; (try with_reducible rfl)
                    try simp only [Act.put, List.setIfInBounds_toArray, List.set_cons_zero, List.set_cons_succ]
                    as_aux_lemma =>
                      refine wpHz_one 38 (by kernel_rfl) (by rfl) (fun K hK => ?_)
                      simp only [List.getElem?_toArray, List.getElem?_cons_zero, List.getElem?_cons_succ]
                      go_wp2_with (go_at_call 18; refine Htt.out.mono ?_; rintro e' w16 ⟨rfl, rfl⟩)
                      clear hHeld
                      refine hK.out _ _ (fun _ => hS15c) (fun hHeld => ?_)
                      replace hHeld := hHeld (by decide)
                      clear hK K
                      try simp only [Act.put, List.setIfInBounds_toArray, List.set_cons_zero, List.set_cons_succ]
                      refine wpHz_takenZ 42 140 ?v87 (by kernel_rfl) (by kernel_rfl) (by kernel_rfl) (by kernel_rfl) (Nat.le_of_ble_eq_true (by kernel_rfl)) (fun _ _ _ h => h) (by rfl) ?hy87 (by assumption) ?rest87
                      case hy87 => intro w hSw; (try dsimp only at hSw); simp only [List.getElem?_toArray, List.getElem?_cons_zero, List.getElem?_cons_succ]; go_simp; (try with_reducible rfl)
                      try simp only [Act.put, List.setIfInBounds_toArray, List.set_cons_zero, List.set_cons_succ]
                      refine wpHz_takenZ 43 141 ?v88 (by kernel_rfl) (by kernel_rfl) (by kernel_rfl) (by kernel_rfl) (Nat.le_of_ble_eq_true (by kernel_rfl)) (fun _ _ _ h => h) (by rfl) ?hy88 (by assumption) ?rest88
                      case hy88 => intro w hSw; (try dsimp only at hSw); simp only [List.getElem?_toArray, List.getElem?_cons_zero, List.getElem?_cons_succ]; go_simp; (try with_reducible rfl)
                      try simp only [Act.put, List.setIfInBounds_toArray, List.set_cons_zero, List.set_cons_succ]
                      refine wpHz_done (by kernel_rfl) ?_ _
                      have q2c := hS15c.1
                      clear hS15c hS0 hHeld HsC Htt HSame2 HdnH Hcl HrsA Hrd
                      clear Hpl
                      go_wp2
                      refine ⟨⟨k + 1, E, q2, _, by omega, hEy, vi (by omega), rfl, rfl, rfl, ?_, HT2.out, Sat.perm (As := [_, _, _, _, _, _, _]) HS15.out [1] [_] rfl (by simp)⟩, by simp [intOf] <;> omega⟩
                      unfold Hid
                      rw [Bool.eq_iff_iff]
                      simp
        · go_wp2_with (first
            | (go_at_call 8; refine HOf.out.mono ?_; rintro e' w12 ⟨out, rest, e8, dn, ov8, rv8, X, hal, rfl, hrd, hS3⟩; obtain ⟨f1, f2, f3, f4⟩ := hal q2 HT2.out; subst f1; subst f3; subst f4; obtain ⟨ro8, rap8, rfl, -, -, -, -⟩ := hrd _ hS3.tail; obtain ⟨_, roo, rocap, rfl, hroc, -, -, -⟩ := hS3.at_ 0 _ rfl; have hqe : q.e ≠ 0 := of_decide_eq_true Hbd.out.symm; have hnw0 : nw.length = 0 := (by rw [(Hbad.out hqe).1]; rfl); have Hcl := clear8_any (w12.alloc (.cells #[.slice roo q2.q.hist.length rocap, .slice ro8 q2.rest.length rap8, .int .i64 (e8 : Nat), .bool q2.done] 29)) e8; rw [f2] at Hcl; have Hcl := Lib.hid Hcl; have HS12 := Lib.hid (hS3.alloc_drop (.cells #[.slice roo q2.q.hist.length rocap, .slice ro8 q2.rest.length rap8, .int .i64 (e8 : Nat), .bool q2.done] 29)); have Hqe := Lib.hid hqe; have F2 := Lib.hid f2; clear HOf hal hrd hS3 hqe f2)
            | (go_at_call 9; refine Hcl.out.mono ?_; rintro e' w13 ⟨rfl, rfl⟩; clear Hcl))
          all_goals
            have Hhl : Hid (q2.q.hist.length = q.q.hist.length) := by unfold Hid; rw [Hnw.out, (Hbad.out Hqe.out).1, List.append_nil]
            refine ⟨⟨k + 1, E, q2, true, by omega, hEy, vi (by omega), rfl, ?_, rfl, ?_, HT2.out, Sat.perm (As := [_, _, _, _, _]) HS12.out [3] [_] rfl (by simp)⟩, by simp [intOf] <;> omega⟩
            · rw [Hhl.out]
            · unfold Hid; rw [(Hbad.out Hqe.out).2]; exact Hbd.out

end Go.Proofs.YtdpocnkeokplpaaGreat
