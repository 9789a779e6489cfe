/- zlib.Decoder.Push. -/
import Derived.Test.YtdpocnkeokplpaaZM
namespace Go.Proofs.Ytdpocnkeokplpaa
open Go.RowKit Go.Hal
set_option linter.unusedVariables false
set_option linter.unusedSimpArgs false

set_option maxHeartbeats 400000 in
theorem big_short {w : World} {ao : Option Addr} {len cap at' n : Nat} (h1 : 1 ≤ n) (h4 : n ≤ 4) (hl : len ≤ 9223372036854775807) (ha : len < at' + n) (hn : at' ≤ 9223372036854775807) :
    Calls Try.prog 64 #[.slice ao len cap, .int .i64 at', .int .i64 n] w fun e w' => e = .returned (.tuple #[.int .i64 0, .int .i64 2]) ∧ w' = w := by
  go_enter Try.func64, Try.ntmps64
  go_wp2_with (go_at_call 90; refine (fits_short (v := .slice ao len cap) h1 h4 hl ha hn).mono ?_; rintro e w' ⟨rfl, rfl⟩)
  go_loop [9, 10] (fun x i => x = .int .i64 0 ∧ i = .int .i64 0) (fun _ i => 0)
  case atStart => exact ⟨rfl, rfl⟩
  case round =>
    obtain ⟨rfl, rfl⟩ := hrel
    go_wp2
    go_ret2
    exact ⟨rfl, rfl⟩
theorem zt_on_of {lim : Int} {ys : List UInt8} {s : ZS} (h : ZT lim ys s) (h2 : ¬ s.head.length < 2) (hd : s.q.done = false) (he : s.e = 0) : ∃ a c bb, ys = a :: c :: bb ∧ HeadOk a c ∧ Tells lim bb s.q ∧ s = ⟨s.q, [a, c], [], [], false, 0⟩ := by
  cases h with
  | short h => exact absurd h h2
  | form h => cases he
  | @on a c bb Q h1 hT hd =>
    have he : Q.err = 0 := he
    exact ⟨a, c, bb, rfl, h1, hT, by rw [he]⟩
  | foot _ _ _ hq => rw [show _ = true from hq] at hd; cases hd
  | good _ _ _ hq => rw [show _ = true from hq] at hd; cases hd
  | sum _ _ _ hq => cases he
theorem fin_q (s : ZS) (b : List UInt8) : (s.fin b).q = s.q := by
  unfold ZS.fin
  split
  · rfl
  · split <;> rfl
theorem zd_err {w : World} {z : Nat} {lim : Int} {s : ZS} {Rs : List Res} (hS : Sat w (zd z lim s :: Rs)) : w.cell? ⟨z, 6, none⟩ = some (.int .i64 (s.e : Nat)) := by
  obtain ⟨d, hv, fv, rv, h⟩ := zd_open hS
  exact (zd_cells h).2.2.2.2.2.2
theorem two_of {F : List UInt8} (h : ¬ F.length < 2) (h2 : F.length ≤ 2) : ∃ a c, F = [a, c] := by
  rcases F with _ | ⟨a, _ | ⟨c, _ | ⟨d, r⟩⟩⟩
  · exact absurd (by decide) h
  · exact absurd (by simp) h
  · exact ⟨a, c, rfl⟩
  · simp only [List.length_cons] at h2; omega
theorem zt_head {lim : Int} {ys : List UInt8} {s : ZS} (h : ZT lim ys s) : s.head.length ≤ 2 := by
  cases h with
  | short h => exact Nat.le_of_lt h
  | _ => exact Nat.le_refl _
theorem zt_start {lim : Int} {ys : List UInt8} {s : ZS} (h : ZT lim ys s) (h2 : s.head.length < 2) : s = ⟨.ok ds0, ys, [], [], false, 0⟩ := by
  cases h with
  | short h => rfl
  | _ => exact (no2 h2).elim

set_option maxRecDepth 100000 in
set_option maxHeartbeats 4000000 in
theorem zPush_any {w : World} {z : Nat} {lim : Int} {s : ZS} {ys b : List UInt8} {Rs : List Res} (hlim : lim ≤ 65535) (hT : ZT lim ys s) (hys : ys.length + b.length ≤ 1048576) (hS : Sat w (zd z lim s :: Rs)) {v : Value} (hv : ∀ w', Sat w' Rs → SlR w' 5 1 b.length v (b.map byteV)) :
    Calls Try.prog 29 #[.pointer (some ⟨z, 0, none⟩), v] w fun e' w' => ∃ s2 nw ov, ZT lim (ys ++ b) s2 ∧ s2.q.hist = s.q.hist ++ nw ∧ e' = .returned (.tuple #[ov, .int .i64 (s2.e : Nat)]) ∧
      Sat w' (sl 5 1 nw.length ov (nw.map byteV) :: zd z lim s2 :: Rs) := by
  obtain ⟨ao, cap, rfl, hbc, hbm, -, -⟩ := hv w hS.tail
  unfold maxLen at hbm
  have Hlim := Lib.hid hlim
  by_cases he : s.e = 0
  case neg =>
    obtain ⟨d, hv1, fv1, rv1, hL⟩ := zd_open hS
    obtain ⟨c0, c1, c2, c3, c4, c5, c6⟩ := zd_cells hL
    have HT := Lib.hid (zt_bad (b := b) hT he)
    have HS := Lib.hid hS.drew
    have hez : ((s.e : Int) != 0) = true := bne_iff_ne.2 (by omega)
    obtain ⟨E, HE⟩ : ∃ E, Hid (E = s.e) := ⟨_, Lib.hid rfl⟩
    rw [← HE.out] at c6 hez he
    clear hT hS hL c0 c1 c2 c3 c4 c5
    go_enter Try.func29, Try.ntmps29
    go_wp2
    go_region
    go_wp2
    go_ret2
    refine ⟨s, [], .slice none 0 0, HT.out, (List.append_nil _).symm, by rw [HE.out]; rfl, ?_⟩
    exact HS.out.sl_nil 5 1 none
  obtain ⟨q, head, foot, rest, done, e0⟩ := s
  obtain rfl : e0 = 0 := he
  have hh2 : head.length ≤ 2 := zt_head hT
  obtain ⟨n, hn⟩ : ∃ n : Nat, n = min (2 - head.length) b.length := ⟨_, rfl⟩
  have hnb : n ≤ b.length := by omega
  have hn2 : head.length + n ≤ 2 := by omega
  have hnI : min ((2 : Int) - (head.length : Int)) (b.length : Int) = (n : Int) := by omega
  have hncap : n ≤ cap := by omega
  -- what the head's bytes make of it
  have Hhd : Hid ((n = 0 ∧ (head.length < 2 → b = []) ∧ ZT lim (ys ++ b.take n) ⟨q, head ++ b.take n, foot, rest, done, 0⟩) ∨ (0 < n ∧ head = ys ∧ q = .ok ds0 ∧ foot = [] ∧ rest = [] ∧ done = false ∧ (head.length + n < 2 → b.drop n = []))) := by
    unfold Hid
    by_cases h0 : n = 0
    · left
      refine ⟨h0, fun h => List.eq_nil_of_length_eq_zero (by omega), ?_⟩
      rw [h0, List.take_zero, List.append_nil, List.append_nil]
      exact hT
    · right
      have h1 := zt_start hT (show head.length < 2 by omega)
      simp only [ZS.mk.injEq] at h1
      obtain ⟨e1, e2, e3, e4, e5, -⟩ := h1
      exact ⟨by omega, e2, e1, e3, e4, e5, fun h => List.drop_of_length_le (by omega)⟩
  have Hys := Lib.hid hys
  have HL : Hid (∃ d hv1 fv1 rv1, Sat w (zL z d lim ⟨q, head, foot, rest, done, 0⟩ hv1 fv1 rv1 ++ Rs)) := zd_open hS
  obtain ⟨d, hv1, fv1, rv1, HL⟩ := HL
  replace HL := Lib.hid HL
  obtain ⟨_, ho, hcap, rfl, -, -, -, -⟩ := HL.out.at_ 2 _ rfl
  obtain ⟨c0, c1, c2, c3, c4, c5, c6⟩ := zd_cells HL.out
  replace c1 : w.cell? ⟨z, 1, none⟩ = some (.slice ho head.length hcap) := c1
  replace c6 : w.cell? ⟨z, 6, none⟩ = some (.int .i64 0) := c6
  have f1 := zd_froz HL.out 1
  obtain ⟨i0, hi, ji0, ji1, ji2⟩ := info_parts Try.infoU8
  have Hv := Lib.hid hv
  have Hn := Lib.hid hn
  clear hT hys hS hv hlim hn c0 c2 c3 c4 c5
  go_enter Try.func29, Try.ntmps29
  go_upto_region 5 with (fail)

  go_cut [6] from 10 to 140 (fun s6 wx => s6 = .int .i64 n ∧ wx = w)
  case first =>
    go_wp2
    all_goals first
      | (exfalso; omega)
      | (go_meet
         exact ⟨vi (by omega), rfl⟩)
  obtain ⟨rfl, rfl⟩ := hcut
  go_upto_if 31 with (fail)
  go_cut [1, 7, 8] from 10 to 140 (fun s1 s7 s8 wx => ∃ hv2, Hid (∀ w', Sat w' Rs → SlR w' 5 1 (b.drop n).length s1 ((b.drop n).map byteV)) ∧ Hid (Sat wx (zL z d lim ⟨q, head ++ b.take n, foot, rest, done, 0⟩ hv2 fv1 rv1 ++ Rs)) ∧ Hid (ZT lim (ys ++ b.take n) ⟨q, head ++ b.take n, foot, rest, done, 0⟩) ∧ Hid ((head ++ b.take n).length < 2 → b.drop n = []))
  case first =>
    by_cases h0 : 0 < n
    · have hd0 : decide ((0 : Int) < (n : Int)) = true := decide_eq_true (by omega)
      have hd0' : decide (0 < n) = true := decide_eq_true h0
      go_upto_region 7 with (fail)
      go_cut [1] from 10 to 140 (fun s1 wx => ∃ hv2, Hid (∀ w', Sat w' Rs → SlR w' 5 1 (b.drop n).length s1 ((b.drop n).map byteV)) ∧ Hid (Sat wx (zL z d lim ⟨q, head ++ b.take n, foot, rest, done, 0⟩ hv2 fv1 rv1 ++ Rs)))
      case first =>
        have hfl : (head ++ b.take n).length = head.length + n := by rw [List.length_append, List.length_take]; omega
        have HF := Lib.hid (Sat.perm (As := [_, _, _, _, _]) HL.out.drew [2, 0, 1, 3, 4] [_, _, _, _, _] rfl (by simp))
        have Hsrc := Lib.hid (SlR.src (P := Try.prog) (sl_hd (Hv.out _ (Sat.perm (As := [_, _, _, _, _]) (Bs := []) HL.out.drew [] rfl (by simp))) n hnb) Try.underlying22 (fun u hu => byteV_one b u (List.mem_of_mem_take hu)))
        have hnw : IntKind.i64.wrap (n : Int) = n := i64_id _ (by omega) (by omega)
        have hn0 : (0 : Int) ≤ (n : Int) := by omega
        have hn1 : (n : Int) ≤ (b.length : Int) := by omega
        have hn2c : (n : Int) ≤ (cap : Int) := by omega
        by_cases hcn : cap = n
        · have hcn2 := hcn.symm
          clear hcn
          subst hcn2
          refine wp_region_hz (z := 15) (S := fun _ => True) (by kernel_rfl) trivial (fun hHeld => ?_)
          refine wpHz_taken 0 32 ?v1 (by kernel_rfl) (by kernel_rfl) (by kernel_rfl) (by kernel_rfl) (by kernel_rfl) (fun _ _ _ h => h) (by rfl) ?hy1 (by assumption) ?rest1
          case hy1 => intro w hSw; (try dsimp only at hSw); simp only [List.getElem?_toArray, List.getElem?_cons_zero, List.getElem?_cons_succ]; go_simp; (try with_reducible rfl)
          try simp only [Act.put, List.setIfInBounds_toArray, List.set_cons_zero, List.set_cons_succ]
          refine wpHz_taken 1 33 ?v2 (by kernel_rfl) (by kernel_rfl) (by kernel_rfl) (by kernel_rfl) (by kernel_rfl) (fun _ _ _ h => h) (by rfl) ?hy2 (by assumption) ?rest2
          case hy2 => intro w hSw; (try dsimp only at hSw); simp only [List.getElem?_toArray, List.getElem?_cons_zero, List.getElem?_cons_succ]; go_simp; (try with_reducible rfl)
          try simp only [Act.put, List.setIfInBounds_toArray, List.set_cons_zero, List.set_cons_succ]
          refine wpHz_taken 2 34 ?v3 (by kernel_rfl) (by kernel_rfl) (by kernel_rfl) (by kernel_rfl) (by kernel_rfl) (fun _ _ _ h => h) (by rfl) ?hy3 (by assumption) ?rest3
          case hy3 => intro w hSw; (try dsimp only at hSw); simp only [List.getElem?_toArray, List.getElem?_cons_zero, List.getElem?_cons_succ]; go_simp; (try with_reducible rfl)
          try simp only [Act.put, List.setIfInBounds_toArray, List.set_cons_zero, List.set_cons_succ]
          refine wpHz_taken 3 35 ?v4 (by kernel_rfl) (by kernel_rfl) (by kernel_rfl) (by kernel_rfl) (by kernel_rfl) (fun _ _ _ h => h) (by rfl) ?hy4 (by assumption) ?rest4
          case hy4 => intro w hSw; (try dsimp only at hSw); simp only [List.getElem?_toArray, List.getElem?_cons_zero, List.getElem?_cons_succ]; go_simp; (try with_reducible rfl)
          try simp only [Act.put, List.setIfInBounds_toArray, List.set_cons_zero, List.set_cons_succ]
          refine wpHz_taken 5 37 ?v5 (by kernel_rfl) (by kernel_rfl) (by kernel_rfl) (by kernel_rfl) (by kernel_rfl) (fun _ _ _ h => h) (by rfl) ?hy5 (by assumption) ?rest5
          case hy5 => intro w hSw; (try dsimp only at hSw); simp only [List.getElem?_toArray, List.getElem?_cons_zero, List.getElem?_cons_succ]; go_simp; (try with_reducible rfl)
          try simp only [Act.put, List.setIfInBounds_toArray, List.set_cons_zero, List.set_cons_succ]
          refine wpHz_taken 6 38 ?v6 (by kernel_rfl) (by kernel_rfl) (by kernel_rfl) (by kernel_rfl) (by kernel_rfl) (fun _ _ _ h => h) (by rfl) ?hy6 (by assumption) ?rest6
          case hy6 => intro w hSw; (try dsimp only at hSw); simp only [List.getElem?_toArray, List.getElem?_cons_zero, List.getElem?_cons_succ]; go_simp; (try with_reducible rfl)
          try simp only [Act.put, List.setIfInBounds_toArray, List.set_cons_zero, List.set_cons_succ]
          refine wpHz_taken 7 39 ?v7 (by kernel_rfl) (by kernel_rfl) (by kernel_rfl) (by kernel_rfl) (by kernel_rfl) (fun _ _ _ h => h) (by rfl) ?hy7 (by assumption) ?rest7
          case hy7 => intro w hSw; (try dsimp only at hSw); simp only [List.getElem?_toArray, List.getElem?_cons_zero, List.getElem?_cons_succ]; go_simp; (try with_reducible rfl)
          try simp only [Act.put, List.setIfInBounds_toArray, List.set_cons_zero, List.set_cons_succ]
          refine wpHz_taken 9 41 ?v8 (by kernel_rfl) (by kernel_rfl) (by kernel_rfl) (by kernel_rfl) (by kernel_rfl) (fun _ _ _ h => h) (by rfl) ?hy8 (by assumption) ?rest8
          case hy8 => intro w hSw; (try dsimp only at hSw); simp only [List.getElem?_toArray, List.getElem?_cons_zero, List.getElem?_cons_succ]; go_simp; (try with_reducible rfl)
          try simp only [Act.put, List.setIfInBounds_toArray, List.set_cons_zero, List.set_cons_succ]
          refine wpHz_taken 10 42 ?v9 (by kernel_rfl) (by kernel_rfl) (by kernel_rfl) (by kernel_rfl) (by kernel_rfl) (fun _ _ _ h => h) (by rfl) ?hy9 (by assumption) ?rest9
          case hy9 => intro w hSw; (try dsimp only at hSw); simp only [List.getElem?_toArray, List.getElem?_cons_zero, List.getElem?_cons_succ]; go_simp; (try with_reducible rfl)
          try simp only [Act.put, List.setIfInBounds_toArray, List.set_cons_zero, List.set_cons_succ]
          refine wpHz_taken 11 43 ?v10 (by kernel_rfl) (by kernel_rfl) (by kernel_rfl) (by kernel_rfl) (by kernel_rfl) (fun _ _ _ h => h) (by rfl) ?hy10 (by assumption) ?rest10
          case hy10 => intro w hSw; (try dsimp only at hSw); simp only [List.getElem?_toArray, List.getElem?_cons_zero, List.getElem?_cons_succ]; go_simp; (try with_reducible rfl)
          try simp only [Act.put, List.setIfInBounds_toArray, List.set_cons_zero, List.set_cons_succ]
          refine wpHz_one 4 (by kernel_rfl) (by rfl) (fun K hK => ?_)
          simp only [List.getElem?_toArray, List.getElem?_cons_zero, List.getElem?_cons_succ]
          go_simp
          clear hHeld
          refine hK.out _ _ (fun _ => trivial) (fun hHeld => ?_)
          replace hHeld := hHeld (by decide)
          clear hK K
          try simp only [Act.put, List.setIfInBounds_toArray, List.set_cons_zero, List.set_cons_succ]
          refine wpHz_one 8 (by kernel_rfl) (by rfl) (fun K hK => ?_)
          simp only [List.getElem?_toArray, List.getElem?_cons_zero, List.getElem?_cons_succ]
          refine wp_append_sat _ _ _ 22 22 rfl 5 i0 (.int .u8 0) 1 1 Try.underlying22 hi ji0 ji1 ji2 rfl (by decide) head.length _ _ _ rfl HF.out n _ _ rfl Hsrc.out (by unfold maxLen; omega) (by omega) ?_
          intro v9 w9 hS9
          rw [← List.map_take, ← List.map_append] at hS9
          obtain ⟨_, ao9, cap9, rfl, -, -, -, -⟩ := hS9.at_ 0 _ rfl
          have hb9 := Sat.heap (Sat.front hS9 1 _ rfl)
          have f9 : w9.frozen? ⟨z, 1, none⟩ = false := frozen_of_row w9 z 1 _ _ hb9
          have g9 : w9.cell? ⟨z, 1, none⟩ = some (.slice ho head.length hcap) := by rw [cell_of_row w9 z 1 _ _ _ hb9]; rfl
          have HS9 := Lib.hid hS9
          clear hS9 hb9 HF Hsrc
          clear hHeld
          refine hK.out _ _ (fun _ => trivial) (fun hHeld => ?_)
          replace hHeld := hHeld (by decide)
          clear hK K
          try simp only [Act.put, List.setIfInBounds_toArray, List.set_cons_zero, List.set_cons_succ]
          refine wpHz_taken 12 44 ?v13 (by kernel_rfl) (by kernel_rfl) (by kernel_rfl) (by kernel_rfl) (by kernel_rfl) (fun _ _ _ h => h) (by rfl) ?hy13 (by assumption) ?rest13
          case hy13 => intro w hSw; (try dsimp only at hSw); simp only [List.getElem?_toArray, List.getElem?_cons_zero, List.getElem?_cons_succ]; go_simp; (try with_reducible rfl)
          try simp only [Act.put, List.setIfInBounds_toArray, List.set_cons_zero, List.set_cons_succ]
          refine wpHz_taken 13 45 ?v14 (by kernel_rfl) (by kernel_rfl) (by kernel_rfl) (by kernel_rfl) (by kernel_rfl) (fun _ _ _ h => h) (by rfl) ?hy14 (by assumption) ?rest14
          case hy14 => intro w hSw; (try dsimp only at hSw); simp only [List.getElem?_toArray, List.getElem?_cons_zero, List.getElem?_cons_succ]; go_simp; (try with_reducible rfl)
          try simp only [Act.put, List.setIfInBounds_toArray, List.set_cons_zero, List.set_cons_succ]
          refine wpHz_one 14 (by kernel_rfl) (by rfl) (fun K hK => ?_)
          simp only [List.getElem?_toArray, List.getElem?_cons_zero, List.getElem?_cons_succ]
          go_simp
          clear hHeld
          refine hK.out _ _ (fun _ => trivial) (fun hHeld => ?_)
          replace hHeld := hHeld (by decide)
          clear hK K
          try simp only [Act.put, List.setIfInBounds_toArray, List.set_cons_zero, List.set_cons_succ]
          refine wpHz_one 15 (by kernel_rfl) (by rfl) (fun K hK => ?_)
          simp only [List.getElem?_toArray, List.getElem?_cons_zero, List.getElem?_cons_succ]
          go_simp
          refine hK.out _ _ (fun h => absurd rfl h) (fun _ => ?_)
          clear hK K
          try simp only [Act.put, List.setIfInBounds_toArray, List.set_cons_zero, List.set_cons_succ]
          refine wpHz_done (by kernel_rfl) ?_ _
          clear hHeld
          have hset := Sat.setCell (i := 1) (Sat.front HS9.out 1 _ rfl) (.slice ao9 (head.length + n) cap9)
          have hfin := Sat.perm (As := [_, _, _, _, _]) hset [0, 2, 1, 3, 4] [_, _, _, _, _] rfl (by simp)
          have Hfin := Lib.hid hfin
          clear hset hfin
          go_wp2
          go_meet
          refine ⟨.slice ao9 (head.length + n) cap9, fun w' h' => ?_, ?_⟩
          · have h9 := sl_tl (Hv.out w' h') n hnb
            rw [if_pos rfl, Nat.sub_self] at h9
            rw [List.length_drop, List.map_drop]
            have e9 : b.length - n = 0 := by omega
            rw [e9] at h9 ⊢
            exact h9
          · have h9 := Hfin.out
            unfold Hid
            rw [← hfl] at h9 ⊢
            exact h9
        · skip
          refine wp_region_hz (z := 15) (S := fun _ => True) (by kernel_rfl) trivial (fun hHeld => ?_)
          refine wpHz_taken 0 32 ?v16 (by kernel_rfl) (by kernel_rfl) (by kernel_rfl) (by kernel_rfl) (by kernel_rfl) (fun _ _ _ h => h) (by rfl) ?hy16 (by assumption) ?rest16
          case hy16 => intro w hSw; (try dsimp only at hSw); simp only [List.getElem?_toArray, List.getElem?_cons_zero, List.getElem?_cons_succ]; go_simp; (try with_reducible rfl)
          try simp only [Act.put, List.setIfInBounds_toArray, List.set_cons_zero, List.set_cons_succ]
          refine wpHz_taken 1 33 ?v17 (by kernel_rfl) (by kernel_rfl) (by kernel_rfl) (by kernel_rfl) (by kernel_rfl) (fun _ _ _ h => h) (by rfl) ?hy17 (by assumption) ?rest17
          case hy17 => intro w hSw; (try dsimp only at hSw); simp only [List.getElem?_toArray, List.getElem?_cons_zero, List.getElem?_cons_succ]; go_simp; (try with_reducible rfl)
          try simp only [Act.put, List.setIfInBounds_toArray, List.set_cons_zero, List.set_cons_succ]
          refine wpHz_taken 2 34 ?v18 (by kernel_rfl) (by kernel_rfl) (by kernel_rfl) (by kernel_rfl) (by kernel_rfl) (fun _ _ _ h => h) (by rfl) ?hy18 (by assumption) ?rest18
          case hy18 => intro w hSw; (try dsimp only at hSw); simp only [List.getElem?_toArray, List.getElem?_cons_zero, List.getElem?_cons_succ]; go_simp; (try with_reducible rfl)
          try simp only [Act.put, List.setIfInBounds_toArray, List.set_cons_zero, List.set_cons_succ]
          refine wpHz_taken 3 35 ?v19 (by kernel_rfl) (by kernel_rfl) (by kernel_rfl) (by kernel_rfl) (by kernel_rfl) (fun _ _ _ h => h) (by rfl) ?hy19 (by assumption) ?rest19
          case hy19 => intro w hSw; (try dsimp only at hSw); simp only [List.getElem?_toArray, List.getElem?_cons_zero, List.getElem?_cons_succ]; go_simp; (try with_reducible rfl)
          try simp only [Act.put, List.setIfInBounds_toArray, List.set_cons_zero, List.set_cons_succ]
          refine wpHz_taken 5 37 ?v20 (by kernel_rfl) (by kernel_rfl) (by kernel_rfl) (by kernel_rfl) (by kernel_rfl) (fun _ _ _ h => h) (by rfl) ?hy20 (by assumption) ?rest20
          case hy20 => intro w hSw; (try dsimp only at hSw); simp only [List.getElem?_toArray, List.getElem?_cons_zero, List.getElem?_cons_succ]; go_simp; (try with_reducible rfl)
          try simp only [Act.put, List.setIfInBounds_toArray, List.set_cons_zero, List.set_cons_succ]
          refine wpHz_taken 6 38 ?v21 (by kernel_rfl) (by kernel_rfl) (by kernel_rfl) (by kernel_rfl) (by kernel_rfl) (fun _ _ _ h => h) (by rfl) ?hy21 (by assumption) ?rest21
          case hy21 => intro w hSw; (try dsimp only at hSw); simp only [List.getElem?_toArray, List.getElem?_cons_zero, List.getElem?_cons_succ]; go_simp; (try with_reducible rfl)
          try simp only [Act.put, List.setIfInBounds_toArray, List.set_cons_zero, List.set_cons_succ]
          refine wpHz_taken 7 39 ?v22 (by kernel_rfl) (by kernel_rfl) (by kernel_rfl) (by kernel_rfl) (by kernel_rfl) (fun _ _ _ h => h) (by rfl) ?hy22 (by assumption) ?rest22
          case hy22 => intro w hSw; (try dsimp only at hSw); simp only [List.getElem?_toArray, List.getElem?_cons_zero, List.getElem?_cons_succ]; go_simp; (try with_reducible rfl)
          try simp only [Act.put, List.setIfInBounds_toArray, List.set_cons_zero, List.set_cons_succ]
          refine wpHz_taken 9 41 ?v23 (by kernel_rfl) (by kernel_rfl) (by kernel_rfl) (by kernel_rfl) (by kernel_rfl) (fun _ _ _ h => h) (by rfl) ?hy23 (by assumption) ?rest23
          case hy23 => intro w hSw; (try dsimp only at hSw); simp only [List.getElem?_toArray, List.getElem?_cons_zero, List.getElem?_cons_succ]; go_simp; (try with_reducible rfl)
          try simp only [Act.put, List.setIfInBounds_toArray, List.set_cons_zero, List.set_cons_succ]
          refine wpHz_taken 10 42 ?v24 (by kernel_rfl) (by kernel_rfl) (by kernel_rfl) (by kernel_rfl) (by kernel_rfl) (fun _ _ _ h => h) (by rfl) ?hy24 (by assumption) ?rest24
          case hy24 => intro w hSw; (try dsimp only at hSw); simp only [List.getElem?_toArray, List.getElem?_cons_zero, List.getElem?_cons_succ]; go_simp; (try with_reducible rfl)
          try simp only [Act.put, List.setIfInBounds_toArray, List.set_cons_zero, List.set_cons_succ]
          refine wpHz_taken 11 43 ?v25 (by kernel_rfl) (by kernel_rfl) (by kernel_rfl) (by kernel_rfl) (by kernel_rfl) (fun _ _ _ h => h) (by rfl) ?hy25 (by assumption) ?rest25
          case hy25 => intro w hSw; (try dsimp only at hSw); simp only [List.getElem?_toArray, List.getElem?_cons_zero, List.getElem?_cons_succ]; go_simp; (try with_reducible rfl)
          try simp only [Act.put, List.setIfInBounds_toArray, List.set_cons_zero, List.set_cons_succ]
          refine wpHz_one 4 (by kernel_rfl) (by rfl) (fun K hK => ?_)
          simp only [List.getElem?_toArray, List.getElem?_cons_zero, List.getElem?_cons_succ]
          go_simp
          clear hHeld
          refine hK.out _ _ (fun _ => trivial) (fun hHeld => ?_)
          replace hHeld := hHeld (by decide)
          clear hK K
          try simp only [Act.put, List.setIfInBounds_toArray, List.set_cons_zero, List.set_cons_succ]
          refine wpHz_one 8 (by kernel_rfl) (by rfl) (fun K hK => ?_)
          simp only [List.getElem?_toArray, List.getElem?_cons_zero, List.getElem?_cons_succ]
          refine wp_append_sat _ _ _ 22 22 rfl 5 i0 (.int .u8 0) 1 1 Try.underlying22 hi ji0 ji1 ji2 rfl (by decide) head.length _ _ _ rfl HF.out n _ _ rfl Hsrc.out (by unfold maxLen; omega) (by omega) ?_
          intro v9 w9 hS9
          rw [← List.map_take, ← List.map_append] at hS9
          obtain ⟨_, ao9, cap9, rfl, -, -, -, -⟩ := hS9.at_ 0 _ rfl
          have hb9 := Sat.heap (Sat.front hS9 1 _ rfl)
          have f9 : w9.frozen? ⟨z, 1, none⟩ = false := frozen_of_row w9 z 1 _ _ hb9
          have g9 : w9.cell? ⟨z, 1, none⟩ = some (.slice ho head.length hcap) := by rw [cell_of_row w9 z 1 _ _ _ hb9]; rfl
          have HS9 := Lib.hid hS9
          clear hS9 hb9 HF Hsrc
          clear hHeld
          refine hK.out _ _ (fun _ => trivial) (fun hHeld => ?_)
          replace hHeld := hHeld (by decide)
          clear hK K
          try simp only [Act.put, List.setIfInBounds_toArray, List.set_cons_zero, List.set_cons_succ]
          refine wpHz_taken 12 44 ?v28 (by kernel_rfl) (by kernel_rfl) (by kernel_rfl) (by kernel_rfl) (by kernel_rfl) (fun _ _ _ h => h) (by rfl) ?hy28 (by assumption) ?rest28
          case hy28 => intro w hSw; (try dsimp only at hSw); simp only [List.getElem?_toArray, List.getElem?_cons_zero, List.getElem?_cons_succ]; go_simp; (try with_reducible rfl)
          try simp only [Act.put, List.setIfInBounds_toArray, List.set_cons_zero, List.set_cons_succ]
          refine wpHz_taken 13 45 ?v29 (by kernel_rfl) (by kernel_rfl) (by kernel_rfl) (by kernel_rfl) (by kernel_rfl) (fun _ _ _ h => h) (by rfl) ?hy29 (by assumption) ?rest29
          case hy29 => intro w hSw; (try dsimp only at hSw); simp only [List.getElem?_toArray, List.getElem?_cons_zero, List.getElem?_cons_succ]; go_simp; (try with_reducible rfl)
          try simp only [Act.put, List.setIfInBounds_toArray, List.set_cons_zero, List.set_cons_succ]
          refine wpHz_one 14 (by kernel_rfl) (by rfl) (fun K hK => ?_)
          simp only [List.getElem?_toArray, List.getElem?_cons_zero, List.getElem?_cons_succ]
          go_simp
          clear hHeld
          refine hK.out _ _ (fun _ => trivial) (fun hHeld => ?_)
          replace hHeld := hHeld (by decide)
          clear hK K
          try simp only [Act.put, List.setIfInBounds_toArray, List.set_cons_zero, List.set_cons_succ]
          refine wpHz_one 15 (by kernel_rfl) (by rfl) (fun K hK => ?_)
          simp only [List.getElem?_toArray, List.getElem?_cons_zero, List.getElem?_cons_succ]
          go_simp
          refine hK.out _ _ (fun h => absurd rfl h) (fun _ => ?_)
          clear hK K
          try simp only [Act.put, List.setIfInBounds_toArray, List.set_cons_zero, List.set_cons_succ]
          refine wpHz_done (by kernel_rfl) ?_ _
          clear hHeld
          have hset := Sat.setCell (i := 1) (Sat.front HS9.out 1 _ rfl) (.slice ao9 (head.length + n) cap9)
          have hfin := Sat.perm (As := [_, _, _, _, _]) hset [0, 2, 1, 3, 4] [_, _, _, _, _] rfl (by simp)
          have Hfin := Lib.hid hfin
          clear hset hfin
          go_wp2
          go_meet
          refine ⟨.slice ao9 (head.length + n) cap9, fun w' h' => ?_, ?_⟩
          · have h9 := sl_tl (Hv.out w' h') n hnb
            rw [if_neg hcn] at h9
            rw [List.length_drop, List.map_drop]
            exact h9
          · have h9 := Hfin.out
            unfold Hid
            rw [← hfl] at h9 ⊢
            exact h9
      obtain ⟨hv2, Hv2, HL2⟩ := hcut
      clear HL c1 f1
      obtain ⟨F, HF⟩ : ∃ F, Hid (F = head ++ b.take n) := ⟨_, Lib.hid rfl⟩
      rw [← HF.out] at HL2
      have hFl : F.length = head.length + n := by rw [HF.out, List.length_append, List.length_take]; omega
      obtain ⟨_, fo2, fcap2, rfl, -, -, -, -⟩ := HL2.out.at_ 2 _ rfl
      obtain ⟨c0, c1, c2, c3, c4, c5, c6⟩ := zd_cells HL2.out
      replace c1 : wc.cell? ⟨z, 1, none⟩ = some (.slice fo2 F.length fcap2) := c1
      replace c6 : wc.cell? ⟨z, 6, none⟩ = some (.int .i64 0) := c6
      have f6 := zd_froz HL2.out 6
      clear c0 c2 c3 c4 c5
      obtain ⟨-, k1, k2, k3, k4, k5, k6⟩ := Hhd.out.resolve_left (fun h => by omega)
      subst k1 k2 k3 k4 k5
      by_cases hF2 : F.length < 2
      · have hbs := big_short (w := wc) (ao := fo2) (len := F.length) (cap := fcap2) (at' := 0) (n := 2) (by omega) (by omega) (by omega) (by omega) (by omega)
        rw [show ((0 : Nat) : Int) = 0 from rfl, show ((2 : Nat) : Int) = 2 from rfl] at hbs
        have Hbs := Lib.hid hbs
        have Hk6 := Lib.hid (k6 (by omega))
        have HF2 := Lib.hid hF2
        have HFl := Lib.hid hFl
        clear hbs hF2 hFl k6
        go_wp2_with (go_at_call 64; (with_reducible refine Hbs.out.mono ?_); rintro e' w3 ⟨rfl, rfl⟩)
        go_meet
        refine ⟨.slice fo2 F.length fcap2, Hv2, ?_, ?_, ?_⟩
        · rw [← HF.out]; exact HL2
        · rw [← HF.out, HF.out]
          exact .short (by have := HF2.out; rw [HF.out] at this; exact this)
        · exact Lib.hid (fun _ => Hk6.out)
      · obtain ⟨a, c, hac⟩ := two_of hF2 (by omega)
        have hread : BytesR wc (.slice fo2 F.length fcap2) F := (Sat.front HL2.out 2 _ rfl).sl_read
        have hbig := big_ok hread (at' := 0) (n := 2) (by omega) (by omega) (by omega)
        have hV : beV ((F.drop 0).take 2) = 256 * a.toNat + c.toNat := by rw [hac]; simp [beV]; omega
        rw [hV, show ((0 : Nat) : Int) = 0 from rfl, show ((2 : Nat) : Int) = 2 from rfl] at hbig
        obtain ⟨A, HA⟩ : ∃ A, Hid (A = a.toNat) := ⟨_, Lib.hid rfl⟩
        obtain ⟨C, HC⟩ : ∃ C, Hid (C = c.toNat) := ⟨_, Lib.hid rfl⟩
        have hA : A < 256 := by rw [HA.out]; exact a.toNat_lt
        have hC : C < 256 := by rw [HC.out]; exact c.toNat_lt
        rw [← HA.out, ← HC.out] at hbig
        obtain ⟨V, HV⟩ : ∃ V, Hid (V = 256 * A + C) := ⟨_, Lib.hid rfl⟩
        rw [← HV.out] at hbig
        have hV2 : V < 65536 := by rw [HV.out]; omega
        have Hbig := Lib.hid hbig
        have Hac := Lib.hid hac
        have HF2 := Lib.hid hF2
        have HFl := Lib.hid hFl
        clear hread hbig hV hac hF2 hFl
        obtain ⟨p1, hp1⟩ : ∃ p1 : Nat, p1 = A % 16 := ⟨_, rfl⟩
        obtain ⟨p2, hp2⟩ : ∃ p2 : Nat, p2 = A / 16 := ⟨_, rfl⟩
        obtain ⟨p3, hp3⟩ : ∃ p3 : Nat, p3 = C / 32 % 2 := ⟨_, rfl⟩
        obtain ⟨p4, hp4⟩ : ∃ p4 : Nat, p4 = (256 * A + C) % 31 := ⟨_, rfl⟩
        have hv := HV.out
        have hq1 : bits .and .i64 ((V : Int) / 256) 15 = (p1 : Int) := by
          rw [show (V : Int) / 256 = ((V / 256 : Nat) : Int) by omega, show (15 : Int) = ((15 : Nat) : Int) from rfl, and_i64 _ _ (by omega) (by omega), show (15 : Nat) = 2 ^ 4 - 1 from rfl, Nat.and_two_pow_sub_one_eq_mod]
          omega
        have hq2 : (V : Int) / 4096 = (p2 : Int) := by omega
        have hq3 : bits .and .i64 ((V : Int) / 32) 1 = (p3 : Int) := by
          rw [show (V : Int) / 32 = ((V / 32 : Nat) : Int) by omega, show (1 : Int) = ((1 : Nat) : Int) from rfl, and_i64 _ _ (by omega) (by omega), show (1 : Nat) = 2 ^ 1 - 1 from rfl, Nat.and_two_pow_sub_one_eq_mod]
          omega
        have hq4 : (V : Int) % 31 = (p4 : Int) := by omega
        have Hok : Hid (HeadOk a c ↔ p1 = 8 ∧ p2 ≤ 7 ∧ p3 = 0 ∧ p4 = 0) := by
          unfold Hid HeadOk
          rw [hp1, hp2, hp3, hp4, HA.out, HC.out]
        have hp3b : p3 < 2 := by omega
        have hF2n : F.length = 2 := by have := congrArg List.length Hac.out; exact this
        have hFb : ∀ b' : List UInt8, head ++ b = F ++ b.drop n := by intro _; rw [HF.out, List.append_assoc, List.take_append_drop]
        have Hbad : Hid (¬ HeadOk a c → ZT lim (head ++ b) ⟨.ok ds0, F, [], [], false, 3⟩) := by
          intro h
          rw [hFb [], Hac.out]
          exact .form h
        have Hgood : Hid (HeadOk a c → ZT lim (head ++ b.take n) ⟨.ok ds0, head ++ b.take n, [], [], false, 0⟩) := by
          intro h
          rw [← HF.out, Hac.out]
          exact .on h (tells_nil lim) rfl
        have hB := zd_shut (zd_set (s' := ⟨.ok ds0, F, [], [], false, 3⟩) (v := .int .i64 3) HL2.out 6 rfl)
        have HB : Hid (Sat ((wc.setCell ⟨z, 6, none⟩ (.int .i64 3)).drew) (sl 5 1 0 (.slice none 0 0) [] :: zd z lim ⟨.ok ds0, F, [], [], false, 3⟩ :: Rs)) := hB.drew.sl_nil 5 1 none
        clear hB hp1 hp2 hp3 hp4 hv hFb hF2n hA hC hV2 Hhd
        by_cases t1 : p1 = 8
        case neg =>
          have Hno : Hid (¬ HeadOk a c) := by intro h; exact t1 (Hok.out.1 h).1
          have t1i : ((p1 : Int) != 8) = true := bne_iff_ne.2 (by omega)
          go_wp2_with (go_at_call 64; (with_reducible refine Hbig.out.mono ?_); rintro e' w3 ⟨rfl, rfl⟩; clear Hbig)
          go_region
          go_wp2
          go_ret2
          refine ⟨⟨.ok ds0, F, [], [], false, 3⟩, [], .slice none 0 0, ?_, rfl, rfl, HB.out⟩
          exact Hbad.out Hno.out
        subst t1
        by_cases t2 : p2 ≤ 7
        case neg =>
          have Hno : Hid (¬ HeadOk a c) := by intro h; exact t2 (Hok.out.1 h).2.1
          have t2i : decide ((7 : Int) < (p2 : Int)) = true := decide_eq_true (by omega)
          have t2n : decide (7 < p2) = true := decide_eq_true (by omega)
          go_wp2_with (go_at_call 64; (with_reducible refine Hbig.out.mono ?_); rintro e' w3 ⟨rfl, rfl⟩; clear Hbig)
          go_region
          go_wp2
          go_ret2
          refine ⟨⟨.ok ds0, F, [], [], false, 3⟩, [], .slice none 0 0, ?_, rfl, rfl, HB.out⟩
          exact Hbad.out Hno.out
        have t2i : decide ((7 : Int) < (p2 : Int)) = false := decide_eq_false (by omega)
        have t2n : decide (7 < p2) = false := decide_eq_false (by omega)
        by_cases t3 : p3 = 0
        case neg =>
          have Hno : Hid (¬ HeadOk a c) := by intro h; exact t3 (Hok.out.1 h).2.2.1
          obtain rfl : p3 = 1 := by omega
          clear hp3b t3
          go_wp2_with (go_at_call 64; (with_reducible refine Hbig.out.mono ?_); rintro e' w3 ⟨rfl, rfl⟩; clear Hbig)
          go_region
          go_wp2
          go_ret2
          refine ⟨⟨.ok ds0, F, [], [], false, 3⟩, [], .slice none 0 0, ?_, rfl, rfl, HB.out⟩
          exact Hbad.out Hno.out
        subst t3
        by_cases t4 : p4 = 0
        case neg =>
          have Hno : Hid (¬ HeadOk a c) := by intro h; exact t4 (Hok.out.1 h).2.2.2
          have t4i : ((p4 : Int) != 0) = true := bne_iff_ne.2 (by omega)
          go_wp2_with (go_at_call 64; (with_reducible refine Hbig.out.mono ?_); rintro e' w3 ⟨rfl, rfl⟩; clear Hbig)
          go_region
          go_wp2
          go_ret2
          refine ⟨⟨.ok ds0, F, [], [], false, 3⟩, [], .slice none 0 0, ?_, rfl, rfl, HB.out⟩
          exact Hbad.out Hno.out
        subst t4
        have hok : HeadOk a c := Hok.out.2 ⟨rfl, t2, rfl, rfl⟩
        have Hg := Lib.hid (Hgood.out hok)
        have Hno : Hid ((head ++ b.take n).length < 2 → b.drop n = []) := by
          intro h
          rw [← HF.out] at h
          exact absurd h HF2.out
        clear hok Hgood Hbad HB Hok
        go_wp2_with (go_at_call 64; (with_reducible refine Hbig.out.mono ?_); rintro e' w3 ⟨rfl, rfl⟩; clear Hbig)
        go_meet
        refine ⟨.slice fo2 F.length fcap2, Hv2, ?_, Hg, Hno⟩
        rw [← HF.out]; exact HL2
    · have hd0 : decide ((0 : Int) < (n : Int)) = false := decide_eq_false (by omega)
      have hd0' : decide (0 < n) = false := decide_eq_false h0
      obtain ⟨-, k1, k2⟩ := Hhd.out.resolve_right (fun h => by omega)
      have hn00 : n = 0 := by omega
      have hz : b.take n = [] := by rw [hn00]; rfl
      have hzd : b.drop n = b := by rw [hn00]; rfl
      have K2 := Lib.hid k2
      clear k2 hn00
      have K1 : Hid ((head ++ b.take n).length < 2 → b.drop n = []) := by
        unfold Hid
        rw [hz, hzd, List.append_nil]; exact k1
      clear k1
      go_wp2
      go_meet
      refine ⟨.slice ho head.length hcap, ?_, ?_, K2, K1⟩
      · rw [hzd]; exact Hv
      · rw [hz, List.append_nil]; exact HL
  obtain ⟨hv2, Hv2, HL2, HT2, Hz⟩ := hcut
  clear HL c1 f1 c6 Hhd
  obtain ⟨F, HF⟩ : ∃ F, Hid (F = head ++ b.take n) := ⟨_, Lib.hid rfl⟩
  obtain ⟨B, HB⟩ : ∃ B, Hid (B = b.drop n) := ⟨_, Lib.hid rfl⟩
  obtain ⟨Y, HY⟩ : ∃ Y, Hid (Y = ys ++ b.take n) := ⟨_, Lib.hid rfl⟩
  have Hcat : Hid (ys ++ b = Y ++ B) := by
    unfold Hid
    rw [HY.out, HB.out, List.append_assoc, List.take_append_drop]
  have HYB : Hid (Y.length + B.length ≤ 1048576) := by
    have h := congrArg List.length Hcat.out
    rw [List.length_append, List.length_append] at h
    have := Hys.out
    unfold Hid
    omega
  rw [← HF.out] at HL2 HT2 Hz
  rw [← HB.out] at Hv2 Hz
  rw [← HY.out] at HT2
  clear HF HB HY Hv Hn hnb hn2 hnI hncap hh2 hbc hbm
  obtain ⟨_, ho2, hcap2, rfl, -, -, -, -⟩ := HL2.out.at_ 2 _ rfl
  obtain ⟨c0, c1, c2, c3, c4, c5, c6⟩ := zd_cells HL2.out
  replace c1 : wc.cell? ⟨z, 1, none⟩ = some (.slice ho2 F.length hcap2) := c1
  clear c2 c3 c4 c5 c6
  by_cases hF2 : F.length < 2
  case pos =>
    have t1 : decide ((F.length : Int) < 2) = true := decide_eq_true (by omega)
    have t2 : decide (F.length < 2) = true := decide_eq_true hF2
    have HE : Hid (ZT lim (ys ++ b) ⟨q, F, foot, rest, done, 0⟩) := by
      have h := HT2.out
      unfold Hid
      rw [Hcat.out, Hz.out hF2, List.append_nil]
      exact h
    clear hF2 c0
    go_wp2
    go_ret2
    exact ⟨⟨q, F, foot, rest, done, 0⟩, HE.out, [], (List.append_nil _).symm, .slice none 0 0, rfl, (zd_shut HL2.out).sl_nil 5 1 none⟩
  have t1 : decide ((F.length : Int) < 2) = false := decide_eq_false (by omega)
  have t2 : decide (F.length < 2) = false := decide_eq_false hF2
  have HF2 := Lib.hid hF2
  clear hF2 Hz
  obtain ⟨dn, Hdn⟩ : ∃ dn, Hid (dn = q.done) := ⟨_, Lib.hid rfl⟩
  have hd := done_all (Sat.front HL2.out 1 _ rfl)
  rw [← Hdn.out] at hd
  have Hd := Lib.hid hd
  clear hd
  cases dn
  case true =>
    have Hq : Hid (q.done = true) := Hdn.out.symm
    have hft := zt_foot HT2.out
    have He := Lib.hid (end_any (v := u1) (b := B) (zd_shut HL2.out) hft.1 (by have h1 := hft.2; have := HYB.out; omega) Hv2.out (by have := HYB.out; omega))
    clear hft Hdn
    go_wp2_with (first
      | (go_at_call 21; (with_reducible refine Hd.out.mono ?_); rintro e' w3 ⟨rfl, rfl⟩; clear Hd)
      | (go_at_call 65; (with_reducible refine He.out.mono ?_); rintro e' w4 ⟨rfl, hS4⟩; obtain ⟨E, HE⟩ : ∃ E, Hid (E = (ZS.fin ⟨q, F, foot, rest, done, 0⟩ B).e) := ⟨_, Lib.hid rfl⟩; have c6 := zd_err hS4; rw [← HE.out] at c6; have HS4 := Lib.hid hS4.drew; clear hS4 He c0 c1))
    go_region
    go_wp2
    go_ret2
    refine ⟨ZS.fin ⟨q, F, foot, rest, done, 0⟩ B, [], .slice none 0 0, ?_, ?_, by rw [HE.out]; rfl, HS4.out.sl_nil 5 1 none⟩
    · rw [Hcat.out]
      exact zt_end HT2.out rfl Hq.out
    · rw [fin_q, List.append_nil]
  obtain ⟨a, c, bb, hYe, hok, hTb, hs⟩ := zt_on_of HT2.out HF2.out Hdn.out.symm rfl
  simp only [ZS.mk.injEq, true_and, and_true] at hs
  obtain ⟨rfl, rfl, rfl, rfl⟩ := hs
  have Hok := Lib.hid hok
  have HTb := Lib.hid hTb
  have hYl : bb.length + 2 = Y.length := by rw [hYe, List.length_cons, List.length_cons]
  have HYe := Lib.hid hYe
  have Hp : Hid (Calls Try.prog 19 #[.pointer (some ⟨d, 0, none⟩), u1] wc fun e' w' => ∃ q2 nw oo oap E2, Hid (Tells lim (bb ++ B) q2) ∧ Hid (q2.hist = q.hist ++ nw) ∧ Hid (E2 = q2.err) ∧ e' = .returned (.tuple #[.slice oo nw.length oap, .int .i64 (E2 : Nat)]) ∧
      Hid (Sat w' (sl 5 1 nw.length (.slice oo nw.length oap) (nw.map byteV) :: decRes d lim q2 :: blk z (.cells (zV d ⟨q, [a, c], [], [], false, 0⟩ (.slice ho2 2 hcap2) fv1 rv1) 94 (0, 0)) :: sl 5 1 2 (.slice ho2 2 hcap2) ([a, c].map byteV) :: sl 5 1 0 fv1 [] :: sl 5 1 0 rv1 [] :: Rs))) := by
    refine (push_next (v := u1) (ys := B) Hlim.out hTb (by have := HYB.out; omega) (Sat.perm (As := [_, _, _, _, _]) HL2.out [1, 0, 2, 3, 4] [_, _, _, _, _] rfl (by simp)) (fun w' h' => Hv2.out w' h'.tail.tail.tail.tail) (by have := HYB.out; omega)).mono ?_
    rintro e' w3 ⟨q2, nw, ov, hT2, hh2, rfl, hS3⟩
    obtain ⟨_, oo, oap, rfl, -, -, -, -⟩ := hS3.at_ 0 _ rfl
    exact ⟨q2, nw, oo, oap, _, hT2, hh2, rfl, rfl, hS3⟩
  have hkeep : ∀ w', Sat w' Rs → ∃ vo vc, u1 = .slice vo B.length vc := fun w' h => by
    obtain ⟨vo, vc, h1, -⟩ := Hv2.out w' h
    exact ⟨vo, vc, h1⟩
  obtain ⟨vo, vc, rfl⟩ := hkeep wc (Sat.perm (As := [_, _, _, _, _]) (Bs := []) HL2.out [] rfl (by simp))
  clear hkeep hok hTb hYl hYe Hdn HT2 HF2
  obtain ⟨S, HS⟩ : ∃ S, Hid (S = adV (adl (1, 0) q.hist)) := ⟨_, Lib.hid rfl⟩
  go_upto_region 20 with (first
    | (go_at_call 21; (with_reducible refine Hd.out.mono ?_); rintro e' w3 ⟨rfl, rfl⟩; clear Hd)
    | (go_at_call 19; (with_reducible refine Hp.out.mono ?_); rintro e' w3 ⟨q2, nw, oo, oap, E2, HT2, Hh2, HE2, rfl, HS3⟩; have hb3 := Sat.heap (Sat.front HS3.out 2 _ rfl); have f6 : w3.frozen? ⟨z, 6, none⟩ = false := frozen_of_row w3 z 6 _ _ hb3; have c6 : w3.cell? ⟨z, 6, none⟩ = some (.int .i64 0) := (by rw [cell_of_row w3 z 6 _ _ _ hb3]; rfl); have c3 : w3.cell? ⟨z, 3, none⟩ = some (.int .u32 (S : Nat)) := (by rw [cell_of_row w3 z 3 _ _ _ hb3, HS.out]; rfl); have HS4 := Lib.hid (Sat.setCell (i := 6) (Sat.front HS3.out 2 _ rfl) (.int .i64 (E2 : Nat))); obtain ⟨S2, HS2⟩ : ∃ S2, Hid (S2 = adV (adl (adl (1, 0) q.hist) nw)) := ⟨_, Lib.hid rfl⟩; have hnw : nw.length ≤ 65536 := (by have h1 := tells_cap HT2.out; rw [Hh2.out, List.length_append] at h1; have := Hlim.out; omega); have hm := more_any (Sat.front HS4.out 1 _ rfl).sl_read (adl (1, 0) q.hist) (adl_ok ⟨by decide, by decide⟩ q.hist) (by omega); rw [← HS2.out, ← HS.out] at hm; have Hm := Lib.hid hm; clear hm hnw hb3 Hp c0)
    | (go_at_call 66; (with_reducible refine Hm.out.mono ?_); rintro e' w5 ⟨rfl, m, hw5⟩; have hS5 := HS4.out.drewN m; rw [← hw5] at hS5; have hb5 := Sat.heap hS5; have f3 : w5.frozen? ⟨z, 3, none⟩ = false := frozen_of_row w5 z 3 _ _ hb5; have c0 : w5.cell? ⟨z, 0, none⟩ = some (.pointer (some ⟨d, 0, none⟩)) := (by rw [cell_of_row w5 z 0 _ _ _ hb5]; rfl); have c6 : w5.cell? ⟨z, 6, none⟩ = some (.int .i64 (E2 : Nat)) := (by rw [cell_of_row w5 z 6 _ _ _ hb5]; rfl); have c3x : w5.cell? ⟨z, 3, none⟩ = some (.int .u32 (S : Nat)) := (by rw [cell_of_row w5 z 3 _ _ _ hb5, HS.out]; rfl); have HS5 := Lib.hid hS5; clear hS5 hb5 hw5 HS4 HS3 Hm c3))
  have HS6 : Hid (Sat (w5.setCell ⟨z, 3, none⟩ (.int .u32 (S2 : Nat))) (blk z (.cells (zV d ⟨q2, [a, c], [], [], false, E2⟩ (.slice ho2 2 hcap2) fv1 rv1) 94 (0, 0)) :: sl 5 1 nw.length (.slice oo nw.length oap) (nw.map byteV) :: decRes d lim q2 :: sl 5 1 2 (.slice ho2 2 hcap2) ([a, c].map byteV) :: sl 5 1 0 fv1 [] :: sl 5 1 0 rv1 [] :: Rs)) := by
    have h := Sat.setCell (i := 3) HS5.out (.int .u32 (S2 : Nat))
    have hsum : S2 = ZS.sum ⟨q2, [a, c], [], [], false, E2⟩ := by
      unfold ZS.sum
      rw [HS2.out, ← adl_app, ← Hh2.out]
    have e : ((zV d ⟨q, [a, c], [], [], false, 0⟩ (.slice ho2 2 hcap2) fv1 rv1).setIfInBounds 6 (.int .i64 (E2 : Nat))).setIfInBounds 3 (.int .u32 (S2 : Nat)) = zV d ⟨q2, [a, c], [], [], false, E2⟩ (.slice ho2 2 hcap2) fv1 rv1 := by rw [hsum]; rfl
    rw [e] at h
    exact h
  clear HS5
  have hYB2 : ys ++ b = a :: c :: (bb ++ B) := by rw [Hcat.out, HYe.out]; rfl
  have HYB2 := Lib.hid hYB2
  obtain ⟨dn2, Hdn2⟩ : ∃ dn, Hid (dn = q2.done) := ⟨_, Lib.hid rfl⟩
  have hd2 := done_all (Sat.front HS6.out 2 _ rfl)
  rw [← Hdn2.out] at hd2
  have Hd2 := Lib.hid hd2
  clear hd2 hYB2 HS HS2
  cases dn2
  case false =>
    have HZ : Hid (ZT lim (ys ++ b) ⟨q2, [a, c], [], [], false, E2⟩) := by
      unfold Hid
      rw [HYB2.out, HE2.out]
      exact .on Hok.out HT2.out Hdn2.out.symm
    go_wp2_with (go_at_call 21; (with_reducible refine Hd2.out.mono ?_); rintro e' w7 ⟨rfl, rfl⟩; clear Hd2)
    go_region
    go_wp2
    go_ret2
    refine ⟨⟨q2, [a, c], [], [], false, E2⟩, nw, .slice oo nw.length oap, HZ.out, Hh2.out, rfl, ?_⟩
    have h := HS6.out.drew
    exact Sat.swap (zd_shut (Rs := _ :: Rs) (Sat.perm (As := [_, _, _, _, _, _]) h [0, 2, 3, 4, 5, 1] [_, _, _, _, _, _] rfl (by simp)))
  have hE0 : E2 = 0 := by rw [HE2.out]; exact done_err Hdn2.out.symm
  subst hE0
  have Hr := Lib.hid (rest_all (Sat.front HS6.out 2 _ rfl))
  clear HE2
  go_wp2_with (first
    | (go_at_call 21; (with_reducible refine Hd2.out.mono ?_); rintro e' w7 ⟨rfl, rfl⟩; clear Hd2)
    | (go_at_call 22; (with_reducible refine Hr.out.mono ?_); rintro e' w8 ⟨rv, rs, rfl, hr, hS8⟩; obtain ⟨_, ro8, rap8, rfl, -, -, -, -⟩ := hS8.at_ 0 _ rfl; have hrl : rs.length ≤ 1048576 := (by have h1 := rest_len HT2.out hr; have h2 := congrArg List.length HYe.out; rw [List.length_cons, List.length_cons] at h2; rw [List.length_append] at h1; have := HYB.out; omega); have He := Lib.hid (end_any (v := .slice ro8 rs.length rap8) (b := rs) (zd_shut (Rs := _ :: _ :: Rs) (Sat.perm (As := [_, _, _, _, _, _, _]) hS8 [2, 1, 4, 5, 6, 0, 3] [_, _, _, _, _, _, _] rfl (by simp))) (Nat.zero_le 4) (Nat.zero_le _) (fun w' h => h.sl_read) hrl); have Hrr := Lib.hid hr; clear hr hS8 hrl Hr HS6 c0 c6)
    | (go_at_call 65; (with_reducible refine He.out.mono ?_); rintro e' w9 ⟨rfl, hS9⟩; obtain ⟨E, HE⟩ : ∃ E, Hid (E = (ZS.fin ⟨q2, [a, c], [], [], false, 0⟩ rs).e) := ⟨_, Lib.hid rfl⟩; have c6 := zd_err hS9; rw [← HE.out] at c6; have HS9 := Lib.hid hS9.drew; clear hS9 He))
  go_region
  go_wp2
  go_ret2
  refine ⟨ZS.fin ⟨q2, [a, c], [], [], false, 0⟩ rs, nw, .slice oo nw.length oap, ?_, ?_, by rw [HE.out]; rfl, ?_⟩
  · rw [HYB2.out]
    exact zt_ends Hok.out HT2.out Hdn2.out.symm Hrr.out
  · rw [fin_q]
    exact Hh2.out
  · exact Sat.perm (As := [_, _, _]) HS9.out [2, 0] [_, _] rfl (by simp)

end Go.Proofs.Ytdpocnkeokplpaa
