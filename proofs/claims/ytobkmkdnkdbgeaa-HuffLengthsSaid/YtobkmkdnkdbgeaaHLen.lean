/- The law HuffLengths. -/
import Derived.Test.YtobkmkdnkdbgeaaLeast
import Derived.Test.YtobkmkdnkdbgeaaStbD
import Derived.Test.YtobkmkdnkdbgeaaQf
namespace Go.Proofs.Ytobkmkdnkdbgeaa
open Go.RowKit Go.Hal
set_option linter.unusedVariables false
set_option linter.unusedSimpArgs false

theorem natL_natsV (L : List Nat) : natL (natsV L) = L := by
  unfold natL natsV
  rw [List.map_map]
  have : (Int.toNat ∘ fun n : Nat => (n : Int)) = id := by funext n; simp
  rw [this, List.map_id]
theorem checkM_parts {cs : List Int} {most : Nat} (h : checkM cs most = 0) : cs.length ≤ 288 ∧ 1 ≤ most ∧ most ≤ 15 ∧ (∀ c ∈ cs, 0 ≤ c ∧ c ≤ 2147483648) := by
  unfold checkM at h
  split at h
  · cases h
  · rename_i h1
    split at h
    · cases h
    · rename_i h2
      exact ⟨by omega, by omega, by omega, fun c hc => by
        by_cases h3 : c < 0 ∨ 2147483648 < c
        · exact absurd ⟨c, hc, h3⟩ h2
        · omega⟩
/-- The lengths that are told are accepted. -/
theorem check_lens {cs : List Int} {most : Nat} (h : checkM cs most = 0) : checkI (natsV (lensN cs most)) = 0 := by
  obtain ⟨g1, g2, g3, g4⟩ := lensN_good cs most h
  obtain ⟨p1, p2, p3, p4⟩ := checkM_parts h
  have hbad : ¬ badL (natsV (lensN cs most)) := by
    rintro (hl | ⟨x, hx, hb⟩)
    · simp only [natsV, List.length_map, lensN_length] at hl; omega
    · obtain ⟨n, hn, rfl⟩ := List.mem_map.1 hx
      obtain ⟨s, hs, rfl⟩ := List.mem_iff_getElem.1 hn
      rw [lensN_length] at hs
      have := (g1 s hs).2
      omega
  unfold checkI
  rw [if_neg hbad, natL_natsV]
  have hws : ws (lensN cs most) = (firstM cs).length := by
    rw [← posM_length]
    unfold ws posM
    have e : (lensN cs most).map (fun n => decide (0 < n)) = cs.map (fun c => decide (0 < c)) := by
      refine List.ext_getElem (by simp [lensN_length]) (fun s h1 h2 => ?_)
      have hs : s < cs.length := by simpa using h2
      simp only [List.getElem_map]
      have := (g1 s hs).1
      by_cases hc : 0 < cs[s]
      · rw [decide_eq_true hc, decide_eq_true (this.1 hc)]
      · rw [decide_eq_false hc, decide_eq_false (fun k => hc (this.2 k))]
    have e1 : ((lensN cs most).filter (fun n => decide (0 < n))).length = (((lensN cs most).map (fun n => decide (0 < n))).filter id).length := by rw [List.filter_map, List.length_map]; rfl
    have e2 : (cs.filter (fun c => decide (0 < c))).length = ((cs.map (fun c => decide (0 < c))).filter id).length := by rw [List.filter_map, List.length_map]; rfl
    rw [e1, e2, e]
  unfold checkL
  rw [if_pos]
  by_cases h2 : 2 ≤ (firstM cs).length
  · exact .inl (g2 h2)
  · by_cases h1 : (firstM cs).length = 1
    · refine .inr (.inr ⟨by rw [hws, h1], ?_⟩)
      have hone : ∀ n ∈ lensN cs most, 0 < n → n = 1 := by
        intro n hn h0
        obtain ⟨s, hs, rfl⟩ := List.mem_iff_getElem.1 hn
        rw [lensN_length] at hs
        exact g4 h1 s hs ((g1 s hs).1.2 h0)
      have : ∀ l : List Nat, (∀ n ∈ l, 0 < n → n = 1) → l.count 1 = (l.filter (fun n => decide (0 < n))).length := by
        intro l
        induction l with
        | nil => intro _; rfl
        | cons n r ih =>
          intro hl
          have hr := ih (fun x hx => hl x (by simp [hx]))
          rw [List.count_cons, hr]
          by_cases h0 : 0 < n
          · have e := hl n (by simp) h0
            subst e; simp
          · obtain rfl : n = 0 := by omega
            simp
      have e := this _ hone
      unfold ws at hws
      rw [e, hws, h1]
    · exact .inr (.inl (by rw [hws]; omega))

def sumL (cs : List Int) (L : List Nat) (k : Nat) : Int := ((List.range k).map fun s : Nat => (cs[s]?).getD 0 * ((L[s]?.getD 0 : Nat) : Int)).sum
theorem sumL_succ (cs : List Int) (L : List Nat) (k : Nat) : sumL cs L (k + 1) = sumL cs L k + (cs[k]?).getD 0 * ((L[k]?.getD 0 : Nat) : Int) := by
  unfold sumL; rw [List.range_succ, List.map_append, List.sum_append]; simp
theorem posM_succ (cs : List Int) (k : Nat) (h : k < cs.length) : posM (cs.take (k + 1)) = posM (cs.take k) ++ if 0 < cs[k] then [cs[k]] else [] := by
  rw [List.take_succ_eq_append_getElem h]
  unfold posM
  rw [List.filter_append]
  by_cases h0 : 0 < cs[k] <;> simp [h0]
/-- One symbol alone. -/
theorem sum_one {cs : List Int} {most : Nat} (h : checkM cs most = 0) (h1 : (firstM cs).length = 1) : sumL cs (lensN cs most) cs.length = (posM cs).sum := by
  obtain ⟨g1, g2, g3, g4⟩ := lensN_good cs most h
  obtain ⟨p1, p2, p3, p4⟩ := checkM_parts h
  have key : ∀ k, k ≤ cs.length → sumL cs (lensN cs most) k = (posM (cs.take k)).sum := by
    intro k
    induction k with
    | zero => intro _; simp [sumL, posM]
    | succ k ih =>
      intro hk
      have hkl : k < cs.length := by omega
      have hkL : k < (lensN cs most).length := by rw [lensN_length]; exact hkl
      rw [sumL_succ, ih (by omega), posM_succ cs k hkl, List.sum_append, List.getElem?_eq_getElem hkl, Option.getD_some, List.getElem?_eq_getElem hkL, Option.getD_some]
      by_cases h0 : 0 < cs[k]
      · have e1 : (lensN cs most)[k] = 1 := g4 h1 k hkl h0
        rw [if_pos h0, e1]; simp
      · have := p4 cs[k] (List.getElem_mem _)
        have e0 : cs[k] = 0 := by omega
        rw [if_neg h0, e0]; simp
  have := key cs.length (Nat.le_refl _)
  rwa [List.take_length] at this

attribute [local go_sem] Oper.semAt_some
theorem lengths_all {w : World} {Rs : List Res} (hS : Sat w Rs) (v : Value) (cs : List Int) (hv : ∀ w', Sat w' Rs → IntsR w' v cs) (mo : Int) :
    Calls Try.prog 21 #[v, .int .i64 mo] w (LensPost cs mo.toNat Rs) := by
  by_cases hm : mo < 1
  · have h0 : mo.toNat = 0 := by omega
    have hck : checkM cs 0 = 1 := by unfold checkM; rw [if_pos (.inr (.inl (by omega)))]
    obtain ⟨ao, cap, rfl, c1, c2, -⟩ := (hv w hS).cell
    have Hck := Lib.hid hck
    rw [h0]
    clear hck hv h0
    refine calls_of_wp_marks Try.func21 rfl ?_
    simp only [Try.ntmps21, List.size_toArray, List.length_cons, List.length_nil, Nat.reduceAdd, Nat.reduceSub, Array.replicate_succ, Array.replicate_zero, List.push_toArray, List.append_toArray, List.nil_append, List.cons_append]
    by_cases b1 : 288 < cs.length
    · have d1 : decide (288 < cs.length) = true := decide_eq_true b1
      go_wp2
      exact lens_bad rfl hS 1 Hck.out (by omega) rfl rfl
    · have d1 : decide (288 < cs.length) = false := decide_eq_false b1
      have d2 : decide (mo < 1) = true := decide_eq_true hm
      go_wp2
      exact lens_bad rfl hS 1 Hck.out (by omega) rfl rfl
  · obtain ⟨M, rfl⟩ : ∃ M : Nat, mo = M := ⟨mo.toNat, by omega⟩
    rw [Int.toNat_natCast]
    refine lengths_any 1048576 sortOk_big1 sortOk_big2 hS v cs hv M (fun h => ?_)
    have h1 := (checkM_parts h).1
    have h2 := firstM_length cs
    omega

set_option maxRecDepth 100000 in
set_option maxHeartbeats 8000000 in
theorem huffLengths_true {w : World} {Rs : List Res} (hS : Sat w Rs) (v : Value) (cs : List Int) (hv : ∀ w', Sat w' Rs → IntsR w' v cs) (mo : Int) :
    Calls Try.prog 5 #[v, .int .i64 mo] w fun e w' => e = .returned (.bool true) ∧ Sat w' Rs := by
  have Hfix := Lib.hid (fixed5_true hS)
  have Hlen := Lib.hid (fun w' (h : Sat w' Rs) => lengths_all h v cs hv mo)
  have Hcnt := Lib.hid (fun w' (h : Sat w' Rs) => counts_any v cs mo w' (hv w' h))
  obtain ⟨ao, cap, rfl, c1, c2, -⟩ := (hv w hS).cell
  have Hv := Lib.hid hv
  obtain ⟨kk, Hkk⟩ : ∃ kk, Hid (checkM cs mo.toNat = kk) := ⟨_, Lib.hid rfl⟩
  rw [Hkk.out] at Hcnt
  clear hv hS
  by_cases hk0 : kk = 0
  · rw [hk0] at Hkk Hcnt
    clear hk0 kk
    obtain ⟨p1, p2, p3, p4⟩ := checkM_parts Hkk.out
    obtain ⟨M, rfl⟩ : ∃ M : Nat, mo = M := ⟨mo.toNat, by omega⟩
    rw [Int.toNat_natCast] at p2 p3 Hkk Hlen
    have hgood := lensN_good cs M Hkk.out
    obtain ⟨L, HL⟩ : ∃ L, Hid (L = lensN cs M) := ⟨_, Lib.hid rfl⟩
    have HLl : Hid (L.length = cs.length) := by unfold Hid; rw [HL.out, lensN_length]
    have HLM : Hid (lensM cs M = natsV L) := by unfold Hid; rw [lensM_lensN, HL.out]; rfl
    have HLc : Hid (checkI (natsV L) = 0) := by unfold Hid; rw [HL.out]; exact check_lens Hkk.out
    have HG1 : Hid (∀ s (hs : s < cs.length), ∃ y : Nat, L[s]? = some y ∧ (0 < cs[s] ↔ 0 < y) ∧ y ≤ M) := by
      intro s hs
      have h := hgood.1 s hs
      exact ⟨_, by rw [HL.out]; exact List.getElem?_eq_getElem (by rw [lensN_length]; exact hs), h.1, h.2⟩
    have HG3 : Hid (2 ≤ (firstM cs).length → sumL cs L cs.length = leastM (posM cs) M) := by
      intro h2
      rw [least_lens cs M p2, ← hgood.2.2.1 h2, HL.out]; rfl
    have HG4 : Hid ((firstM cs).length = 1 → sumL cs L cs.length = (posM cs).sum) := by
      intro h1; rw [HL.out]; exact sum_one Hkk.out h1
    have Hp4 := Lib.hid p4
    clear hgood p4
    obtain ⟨i0, hi, ji0, ji1, ji2⟩ := info_parts Try.infoIntL
    go_enter Try.func5, Try.ntmps5
    go_wp2_with (first
      | (go_at_call 15; refine Hfix.out.mono ?_; rintro e w1 ⟨rfl, hS1⟩; have Hl1 := Lib.hid (Hlen.out _ hS1); clear hS1 Hfix Hlen)
      | (go_at_call 21; refine Hl1.out.mono ?_; rintro e w2 (⟨-, lv, rfl, hS2⟩ | ⟨h, -, -⟩); rotate_left; (exact (h Hkk.out).elim); rw [HLM.out] at hS2; obtain ⟨_, lo, lcap, rfl, -, -, -, -⟩ := hS2.at_ 0 _ rfl; have Hc2 := Lib.hid (Hcnt.out _ hS2.tail); have HS2 := Lib.hid hS2; have Hk2 := Lib.hid (check_any _ (natsV L) w2 (by have h := hS2.sl_read; unfold IntsR; rw [show (natsV L).length = cs.length by unfold natsV; rw [List.length_map]; exact HLl.out]; exact h)); rw [HLc.out] at Hk2; clear hS2 Hcnt Hl1)
      | (go_at_call 22; refine Hc2.out.mono ?_; rintro e w3 ⟨rfl, rfl⟩; clear Hc2)
      | (go_at_call 17; refine Hk2.out.mono ?_; rintro e w3 ⟨rfl, rfl⟩; clear Hk2))
    go_loopw [8, 9, 50] (fun mv sv kv wr => ∃ (k m : Nat) (z : Int), k ≤ cs.length ∧ m ≤ k ∧ 0 ≤ z ∧ z ≤ (k : Int) * 32212254720 ∧ Hid (m = (posM (cs.take k)).length) ∧ Hid (z = sumL cs L k) ∧ sv = .int .i64 z ∧ kv = .int .i64 k ∧ Hid (Sat wr (intS m mv (posM (cs.take k)) :: sl 3 1 cs.length (.slice lo cs.length lcap) ((natsV L).map intV) :: Rs))) (fun _ _ kv _ => cs.length - (intOf kv).toNat)
    case atStart => exact ⟨0, 0, 0, by omega, by omega, by omega, by omega, by simp [Hid, posM], by simp [Hid, sumL], rfl, rfl, HS2.out.sl_nil 3 1 none⟩
    case round =>
      obtain ⟨k, m, z, hk, hm, hz0, hz1, Hm, Hz, rfl, rfl, HS3⟩ := hrel
      clear HS2
      obtain ⟨_, mo', mcap, rfl, -, -, -, -⟩ := HS3.out.at_ 0 _ rfl
      by_cases hlt : k < cs.length
      · have hd : decide ((k : Int) < (cs.length : Int)) = true := decide_eq_true (by omega)
        obtain ⟨x, Hx⟩ : ∃ x, Hid (cs[k] = x) := ⟨_, Lib.hid rfl⟩
        obtain ⟨y, hy, hxy, hyM⟩ := HG1.out k hlt
        rw [Hx.out] at hxy
        have hx0 := Hp4.out x (by rw [← Hx.out]; exact List.getElem_mem _)
        obtain ⟨hx1, hx2⟩ := hx0
        -- the cells
        obtain ⟨ao', cap', heq, -, -, hc⟩ := (Hv.out wr HS3.out.tail.tail).cell
        simp only [Value.slice.injEq, true_and] at heq
        obtain ⟨rfl, rfl⟩ := heq
        obtain ⟨ba, oa, rfl, -, hcell⟩ := hc k hlt
        rw [Hx.out] at hcell
        have hLk : (natsV L)[k]? = some (y : Int) := by unfold natsV; rw [List.getElem?_map, hy]; rfl
        obtain ⟨bl, ol, cl, heq, -, -, hcl⟩ := int_cells (Sat.front HS3.out 1 _ rfl) (by omega)
        simp only [Value.slice.injEq, true_and] at heq
        obtain ⟨rfl, rfl⟩ := heq
        have hcell2 := hcl k _ hLk
        obtain ⟨P, hP⟩ : ∃ P : Int, x * (y : Int) = P := ⟨_, rfl⟩
        have hP0 : 0 ≤ P ∧ P ≤ 32212254720 := by
          rw [← hP]
          have hy15 : (y : Int) ≤ 15 := by omega
          exact ⟨Int.mul_nonneg hx1 (by omega), by
            have h1 := Int.mul_le_mul hx2 hy15 (by omega) (by omega : (0 : Int) ≤ 2147483648)
            omega⟩
        obtain ⟨hP0, hP1⟩ := hP0
        have Hsum : Hid (sumL cs L (k + 1) = z + P) := by
          unfold Hid
          rw [sumL_succ, ← Hz.out, List.getElem?_eq_getElem hlt, Hx.out, hy, Option.getD_some, Option.getD_some, hP]
        have Hpos := Lib.hid (posM_succ cs k hlt)
        rw [Hx.out] at Hpos
        clear hc hcl hLk hy
        by_cases h0 : 0 < x
        · have hy0 : 0 < y := hxy.1 h0
          have d1 : decide (0 < x) = true := decide_eq_true h0
          have d2 : decide ((0 : Int) < (y : Int)) = true := decide_eq_true (by omega)
          have d2' : decide (0 < y) = true := decide_eq_true hy0
          have d3 : decide ((M : Int) < (y : Int)) = false := decide_eq_false (by omega)
          have d3' : decide (M < y) = false := decide_eq_false (by omega)
          have hB1 := HS3.out.sl_made (e := 3) (size := 1) (n := 1) (cap := 1) (cur := #[.int .i64 x]) (xs := [x].map intV) (by omega) (by decide) rfl (by simp) (fun j u hu => by simpa [intV] using hu)
          have Hsrc := Lib.hid (SlR.src (P := Try.prog) hB1.sl_read Try.underlying22 (intV_one _))
          have HB2 := Lib.hid (Sat.perm (As := [_, _, _]) hB1 [1, 2] [_, _] rfl (by simp))
          rw [if_pos h0] at Hpos
          clear hB1 hxy
          go_wp2_with (at_builtin; refine wpList_append_sat _ rfl _ _ 22 22 rfl 3 i0 (.int .i64 0) 1 8 Try.underlying22 hi ji0 ji1 ji2 rfl (by decide) m _ _ _ rfl HB2.out 1 _ _ rfl Hsrc.out (by unfold maxLen; omega) (by omega) ?_; intro v9 w9 hS9; rw [← List.map_append, ← Hpos.out] at hS9; obtain ⟨_, ao9, cap9, hv9, -, -, -, -⟩ := hS9.at_ 0 _ rfl; subst hv9; have HS9 := Lib.hid hS9; clear hS9 HB2 Hsrc)
          refine ⟨⟨k + 1, m + 1, z + P, by omega, by omega, by omega, by omega, ?_, Hsum.out.symm, rfl, by go_num, HS9.out⟩, by simp [intOf]; omega⟩
          unfold Hid; rw [Hpos.out, List.length_append, ← Hm.out]; rfl
        · have hy0 : y = 0 := by
            rcases Nat.eq_zero_or_pos y with h | h
            · exact h
            · exact absurd (hxy.2 h) h0
          subst hy0
          have d1 : decide (0 < x) = false := decide_eq_false h0
          have d3 : decide ((M : Int) < ((0 : Nat) : Int)) = false := decide_eq_false (by omega)
          have d3' : decide (M < 0) = false := decide_eq_false (by omega)
          rw [if_neg h0, List.append_nil] at Hpos
          have HS9 := Lib.hid HS3.out
          rw [← Hpos.out] at HS9
          have hP00 : P = 0 := by rw [← hP]; simp
          clear hxy HS3
          go_wp2
          refine ⟨⟨k + 1, m, z + P, by omega, by omega, by omega, by omega, ?_, Hsum.out.symm, vi (by omega), by go_num, HS9.out⟩, by simp [intOf]; omega⟩
          unfold Hid; rw [Hpos.out, ← Hm.out]
      · have hd : decide ((k : Int) < (cs.length : Int)) = false := decide_eq_false (by omega)
        obtain rfl : k = cs.length := by omega
        have hm2 := Hm.out
        have HS4 := Lib.hid HS3.out
        rw [List.take_length] at HS4 hm2
        have HmF : Hid (m = (firstM cs).length) := by unfold Hid; rw [hm2, posM_length]
        have Hm2 := Lib.hid hm2
        clear hm2 HS3
        by_cases hm1 : m < 2
        · have d1 : decide ((m : Int) < 2) = true := decide_eq_true (by omega)
          have d1' : decide (m < 2) = true := decide_eq_true hm1
          by_cases hm0 : m = 0
          · have d2 : ((m : Int) == 0) = true := by rw [beq_iff_eq]; omega
            have d2' : (m == 0) = true := by rw [beq_iff_eq]; omega
            have Hm0 := Lib.hid hm0
            clear hm0
            go_wp2
            all_goals
              go_ret
              exact ⟨rfl, HS4.out.tail.tail⟩
          · have d2 : ((m : Int) == 0) = false := beq_eq_false_iff_ne.2 (by omega)
            have d2' : (m == 0) = false := beq_eq_false_iff_ne.2 (by omega)
            obtain ⟨c, hc⟩ : ∃ c, posM cs = [c] := List.length_eq_one_iff.1 (by rw [← Hm2.out]; omega)
            have hzc : z = c := by
              have h := HG4.out (by rw [← HmF.out]; omega)
              rw [Hz.out, h, hc]; simp
            have hcell := int_cells HS4.out (by omega)
            obtain ⟨b5, o5, c5, heq, -, -, hc5⟩ := hcell
            simp only [Value.slice.injEq, true_and] at heq
            obtain ⟨rfl, rfl⟩ := heq
            have q5 := hc5 0 c (by rw [hc]; rfl)
            rw [Nat.add_zero] at q5
            subst hzc
            have hm9 : (0 : Int) < (m : Int) := by omega
            have hm9' : 0 < m := by omega
            clear hc5 hc hm0
            go_wp2
            all_goals
              go_ret
              exact ⟨rfl, HS4.out.tail.tail⟩
        · have d1 : decide ((m : Int) < 2) = false := decide_eq_false (by omega)
          have d1' : decide (m < 2) = false := decide_eq_false hm1
          have hzL : z = leastM (posM cs) M := by rw [Hz.out]; exact HG3.out (by rw [← HmF.out]; omega)
          have HLs := Lib.hid (least_any HS4.out _ (posM cs) (fun w' h' => by have h := h'.sl_read; unfold IntsR; rw [← Hm2.out]; exact h) M p3 (by rw [← Hm2.out]; omega) (fun c hc => Hp4.out c ((List.mem_filter.1 hc).1)))
          rw [← hzL] at HLs
          clear hzL HS4
          go_wp2_with (go_at_call 23; refine HLs.out.mono ?_; rintro e w5 ⟨rfl, hS5⟩; have HS5 := Lib.hid hS5; clear hS5 HLs)
          all_goals
            go_ret
            exact ⟨rfl, HS5.out.tail.tail⟩
  · have d0 : ((kk : Int) != 0) = true := bne_iff_ne.2 (by omega)
    have Hk0 := Lib.hid hk0
    clear hk0
    go_enter Try.func5, Try.ntmps5
    go_wp2_with (first
      | (go_at_call 15; refine Hfix.out.mono ?_; rintro e w1 ⟨rfl, hS1⟩; have Hl1 := Lib.hid (Hlen.out _ hS1); clear hS1 Hfix Hlen)
      | (go_at_call 21; refine Hl1.out.mono ?_; rintro e w2 (⟨h, -, -, -⟩ | ⟨-, rfl, hS2⟩); (exact (Hk0.out (Hkk.out.symm.trans h)).elim); rw [Hkk.out]; have Hc2 := Lib.hid (Hcnt.out _ hS2); have HS2 := Lib.hid hS2; clear hS2 Hcnt Hl1)
      | (go_at_call 22; refine Hc2.out.mono ?_; rintro e w3 ⟨rfl, rfl⟩; clear Hc2))
    all_goals
      go_ret
      exact ⟨rfl, HS2.out⟩

end Go.Proofs.Ytobkmkdnkdbgeaa
