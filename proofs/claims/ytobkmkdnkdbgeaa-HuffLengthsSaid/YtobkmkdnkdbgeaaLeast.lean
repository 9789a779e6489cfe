/- The reference of layer 5: sorted, CheckCounts, Least. -/
import Derived.Test.YtobkmkdnkdbgeaaLeastM
import Derived.Test.YtobkmkdnkdbgeaaQf
import Derived.Test.YtobkmkdnkdbgeaaQe
import Derived.BigRegion
import Derived.OwnWalk
import Derived.Handy
import Derived.Deep.CutRange
namespace Go.Proofs.Ytobkmkdnkdbgeaa
open Go.RowKit Go.Hal
set_option linter.unusedVariables false
set_option linter.unusedSimpArgs false

theorem setI (xs : List Int) (k : Nat) (v : Int) : (xs.map intV).set k (.int .i64 v) = (xs.set k v).map intV := by
  rw [List.map_set]; rfl
abbrev intS (n : Nat) (v : Value) (xs : List Int) : Res := sl 3 1 n v (xs.map intV)
/-- The cells of ints that are owned. -/
theorem int_cells {w : World} {v : Value} {N : Nat} {xs : List Int} {Rs : List Res} (hS : Sat w (intS N v xs :: Rs)) (hn : 0 < N) :
    ∃ b off cap, v = .slice (some ⟨b, off, none⟩) N cap ∧ b < w.heap.size ∧ (∀ k, w.frozen? ⟨b, off + k, none⟩ = false) ∧
      ∀ i p, xs[i]? = some p → w.cell? ⟨b, off + i, none⟩ = some (.int .i64 p) := by
  obtain ⟨b0, off, cap', heq, -, hcm, hb0, hcc, hff⟩ := hS.sl_cells hn
  exact ⟨b0, off, cap', heq, hb0, hff, fun i p hp => hcc i _ (by rw [List.getElem?_map, hp]; rfl)⟩
theorem int_at {w : World} {b off N cap : Nat} {xs : List Int} {Rs : List Res} (hS : Sat w (intS N (.slice (some ⟨b, off, none⟩) N cap) xs :: Rs)) {i : Nat} {p : Int} (hi : xs[i]? = some p) (hn : 0 < N) : w.cell? ⟨b, off + i, none⟩ = some (.int .i64 p) := by
  obtain ⟨b0, o0, c0, heq, -, -, h⟩ := int_cells hS hn
  simp only [Value.slice.injEq, true_and, Option.some.injEq, Addr.mk.injEq, and_true] at heq
  obtain ⟨⟨rfl, rfl⟩, rfl⟩ := heq
  exact h i p hi
theorem int_len {w : World} {v : Value} {N : Nat} {xs : List Int} {Rs : List Res} (hS : Sat w (intS N v xs :: Rs)) : xs.length = N := by have := hS.sl_read.len; rw [List.length_map] at this; omega

theorem swapI (A C : List Int) (x y : Int) : ((A ++ y :: x :: C).set A.length x).set (A.length + 1) y = A ++ x :: y :: C := by
  rw [show (A ++ y :: x :: C).set A.length x = A ++ x :: x :: C by simp [List.set_append]]
  rw [List.set_append_right _ _ (by omega), show A.length + 1 - A.length = 1 by omega]; rfl

set_option maxRecDepth 100000 in
set_option maxHeartbeats 4000000 in
theorem sorted_any {w : World} {Rs : List Res} (hS : Sat w Rs) (v : Value) (xs : List Int) (hv : ∀ w', Sat w' Rs → IntsR w' v xs) (hl : xs.length ≤ 1048576) :
    Calls Try.prog 54 #[v] w fun e w' => ∃ ov, e = .returned ov ∧ Sat w' (intS xs.length ov (sortG idI xs) :: Rs) := by
  obtain ⟨ao, cap, rfl, -, -, -⟩ := (hv w hS).cell
  obtain ⟨i0, hi, hz0, hz1, hz2⟩ := info_parts Try.infoIntL
  obtain ⟨n, Hn⟩ : ∃ n, Hid (xs.length = n) := ⟨_, Lib.hid rfl⟩
  have hA := (hS.alloc_drop (.cells #[] 3)).sl_nil 3 1 (some ⟨w.heap.size, 0, none⟩)
  have hsrc := SlR.src (P := Try.prog) (hv _ hA.tail) Try.underlying22 (intV_one xs)
  rw [Hn.out] at hsrc hl ⊢
  have HA := Lib.hid hA
  have Hsrc := Lib.hid hsrc
  clear hA hsrc hv
  go_enter Try.func54, Try.ntmps54
  go_wp2_with (at_builtin; refine wpList_append_sat _ rfl _ _ 22 22 rfl 3 i0 (.int .i64 0) 1 8 Try.underlying22 hi hz0 hz1 hz2 rfl (by decide) 0 _ _ _ rfl HA.out n _ _ rfl Hsrc.out (by unfold maxLen; omega) (by omega) ?_; intro v9 w9 hS9; rw [Nat.zero_add, List.nil_append] at hS9; obtain ⟨_, bo, bap, hv9, -, -, -, -⟩ := hS9.at_ 0 _ rfl; subst hv9; have HS9 := Lib.hid hS9; clear hS9 HA Hsrc)
  go_loopw [11] (fun iv wr => ∃ m : Nat, m ≤ n ∧ iv = .int .i64 m ∧ Hid (Sat wr (intS n (.slice bo n bap) (sortG idI (xs.take m) ++ xs.drop m) :: Rs))) (fun iv _ => n - (intOf iv).toNat)
  case atStart => exact ⟨0, by omega, rfl, by simpa [Hid, sortG] using HS9.out⟩
  case round =>
    obtain ⟨m, hm, rfl, HS⟩ := hrel
    clear HS9 hS
    by_cases hlt : m < n
    · have hd : decide ((m : Int) < (n : Int)) = true := decide_eq_true (by omega)
      have hmx : m < xs.length := by rw [Hn.out]; exact hlt
      obtain ⟨x, hx⟩ : ∃ x, xs[m] = x := ⟨_, rfl⟩
      have hdrop : xs.drop m = x :: xs.drop (m + 1) := by rw [List.drop_eq_getElem_cons hmx, hx]
      have htake : xs.take (m + 1) = xs.take m ++ [x] := by rw [List.take_succ_eq_append_getElem hmx, hx]
      have hsn : sortG idI (xs.take (m + 1)) = insG idI x (sortG idI (xs.take m)) := by rw [htake]; simp [sortG]
      have Hsn := Lib.hid hsn
      obtain ⟨C, HC⟩ : ∃ C, Hid (xs.drop (m + 1) = C) := ⟨_, Lib.hid rfl⟩
      have HS2 := Lib.hid HS.out
      rw [hdrop, HC.out] at HS2
      clear hdrop htake hsn hx HS
      go_wp2
      go_loopw [5] (fun kv wr => ∃ (l1 l2 : List Int) (p : Nat), Hid (l1 ++ l2 = sortG idI (xs.take m)) ∧ Hid (∀ y ∈ l2, idI x < idI y) ∧ Hid (p = l1.length) ∧ kv = .int .i64 p ∧ Hid (Sat wr (intS n (.slice bo n bap) (l1 ++ x :: (l2 ++ C)) :: Rs))) (fun kv _ => (intOf kv).toNat)
      case atStart =>
        refine ⟨sortG idI (xs.take m), [], m, by unfold Hid; simp, by unfold Hid; simp, ?_, rfl, by simpa [Hid] using HS2.out⟩
        unfold Hid; rw [sortG_length, List.length_take]; omega
      case round =>
        obtain ⟨l1, l2, p, Hl, Hgt, Hp, rfl, HS3⟩ := hrel
        clear HS2
        rcases List.eq_nil_or_concat l1 with rfl | ⟨l, y, rfl⟩
        · obtain rfl : p = 0 := by simpa using Hp.out
          go_wp2_with fail
          go_quiet (fail)
          go_wp2
          refine ⟨⟨m + 1, by omega, by go_num, ?_⟩, by simp [intOf]; omega⟩
          unfold Hid
          rw [Hsn.out, ← Hl.out, insG_of idI x [] l2 Hgt.out (.inl rfl), HC.out]
          simpa using HS3.out.drewN nq
        · rw [List.concat_eq_append] at Hl Hp HS3
          obtain ⟨q, rfl⟩ : ∃ q, p = q + 1 := ⟨l.length, by rw [Hp.out]; simp⟩
          have hq : q = l.length := by have := Hp.out; simp at this; omega
          have hS3 := HS3.out
          rw [show l ++ [y] ++ x :: (l2 ++ C) = l ++ y :: x :: (l2 ++ C) by simp] at hS3
          have hlen := int_len hS3
          have hqn : q + 1 < n := by rw [← hlen, hq]; simp
          obtain ⟨b0, off, cap', heq, hb0, hff, hcc⟩ := int_cells hS3 (by omega)
          simp only [Value.slice.injEq, true_and] at heq
          obtain ⟨rfl, rfl⟩ := heq
          have c1 := hcc q y (by rw [hq]; simp)
          have c2 := hcc (q + 1) x (by rw [hq, List.getElem?_append_right (by omega), show l.length + 1 - l.length = 1 by omega]; rfl)
          have f1 := hff q
          have f2 := hff (q + 1)
          have hw1 : IntKind.i64.wrap (q : Int) = q := i64_id _ (by omega) (by omega)
          have hw2 : IntKind.i64.wrap ((q : Int) + 1) = q + 1 := i64_id _ (by omega) (by omega)
          have hw3 : IntKind.i64.wrap ((q : Int) + 1 - 1) = q := i64_id _ (by omega) (by omega) |>.trans (by omega)
          have hz1 : (0 : Int) ≤ (q : Int) := by omega
          have hz2 : (q : Int) < (n : Int) := by omega
          have hz3 : (0 : Int) ≤ (q : Int) + 1 := by omega
          have hz4 : (q : Int) + 1 < (n : Int) := by omega
          have hz5 : decide ((0 : Int) < (q : Int) + 1) = true := decide_eq_true (by omega)
          have hz6 : decide (0 < q + 1) = true := decide_eq_true (by omega)
          have Hset : Hid (∀ W, Sat W (intS n (.slice (some ⟨b0, off, none⟩) n bap) (l ++ y :: x :: (l2 ++ C)) :: Rs) → Sat ((W.setCell ⟨b0, off + q, none⟩ (.int .i64 x)).setCell ⟨b0, off + (q + 1), none⟩ (.int .i64 y)) (intS n (.slice (some ⟨b0, off, none⟩) n bap) (l ++ x :: (y :: l2 ++ C)) :: Rs)) := by
            intro W h
            have h2 := (h.sl_set q (by rw [List.length_map, hlen]; omega) (.int .i64 x)).sl_set (q + 1) (by rw [List.length_set, List.length_map, hlen]; exact hqn) (.int .i64 y)
            rw [setI, setI] at h2
            have e := swapI l (l2 ++ C) x y
            rw [← hq] at e
            rw [e] at h2
            exact h2
          have HS4 := Lib.hid hS3
          have Hq := Lib.hid hq
          clear hcc hff hlen hS3 HS3 hq
          by_cases hlt2 : x < y
          · have hd2 : decide (x < y) = true := decide_eq_true hlt2
            go_wp2_with fail
            go_quiet (fail)
            go_wp2_with fail
            have HS5 := Lib.hid (HS4.out.drewN nq)
            have r1 : (wr.drewN nq).cell? ⟨b0, off + q, none⟩ = some (.int .i64 y) := c1
            have r2 : (wr.drewN nq).cell? ⟨b0, off + (q + 1), none⟩ = some (.int .i64 x) := c2
            have g1 : (wr.drewN nq).frozen? ⟨b0, off + q, none⟩ = false := f1
            have g2 : (wr.drewN nq).frozen? ⟨b0, off + (q + 1), none⟩ = false := f2
            generalize wr.drewN nq = W at HS5 r1 r2 g1 g2 ⊢
            clear c1 c2 f1 f2 HS4
            go_region
            have HF := Lib.hid (Hset.out _ HS5.out.drew)
            clear r1 r2 g1 g2 HS5 Hset
            go_wp2
            refine ⟨⟨l, y :: l2, q, ?_, ?_, Hq.out, vi (by omega), HF.out⟩, by simp [intOf]⟩
            · unfold Hid; rw [← Hl.out]; simp
            · intro z hz
              rcases List.mem_cons.1 hz with rfl | hz
              · exact hlt2
              · exact Hgt.out z hz
          · have hd2 : decide (x < y) = false := decide_eq_false hlt2
            go_wp2_with fail
            go_quiet (fail)
            go_wp2
            refine ⟨⟨m + 1, by omega, by go_num, ?_⟩, by simp [intOf]; omega⟩
            unfold Hid
            rw [Hsn.out, ← Hl.out, insG_of idI x (l ++ [y]) l2 Hgt.out (.inr ⟨l, y, rfl, by show ¬ x < y; omega⟩), HC.out]
            simpa using HS4.out.drewN nq
    · have hd : decide ((m : Int) < (n : Int)) = false := decide_eq_false (by omega)
      obtain rfl : m = n := by omega
      have e : sortG idI (xs.take m) ++ xs.drop m = sortG idI xs := by rw [List.take_of_length_le (by rw [Hn.out]; omega), List.drop_of_length_le (by rw [Hn.out]; omega), List.append_nil]
      have HS2 := Lib.hid HS.out
      rw [e] at HS2
      clear e HS
      go_wp2
      go_ret
      exact ⟨_, rfl, HS2.out⟩

theorem powI {P M : Nat} (h : P = 2 ^ M) : (2 : Int) ^ M = (P : Int) := by rw [h]; simp
theorem pow15N {P M : Nat} (h : P = 2 ^ M) (hM : M ≤ 15) : P ≤ 32768 := by rw [h]; exact Nat.le_trans (Nat.pow_le_pow_right (by omega) hM) (by decide)

set_option maxRecDepth 100000 in
set_option maxHeartbeats 1000000 in
/-- CheckCounts. -/
theorem counts_any (v : Value) (cs : List Int) (mo : Int) (w : World) (hv : IntsR w v cs) :
    Calls Try.prog 22 #[v, .int .i64 mo] w fun e w' => e = .returned (.int .i64 (checkM cs mo.toNat : Nat)) ∧ w = w' := by
  obtain ⟨ao, cap, rfl, h1, h2, hc⟩ := hv.cell
  have Hc := Lib.hid hc
  clear hc hv
  by_cases b1 : 288 < cs.length
  · have He : Hid (checkM cs mo.toNat = 1) := by unfold Hid checkM; rw [if_pos (.inl b1)]
    have d1 : decide (288 < cs.length) = true := decide_eq_true b1
    go_enter Try.func22, Try.ntmps22
    go_wp2
    go_ret
    exact ⟨by rw [He.out]; rfl, rfl⟩
  by_cases b2 : mo < 1
  · have He : Hid (checkM cs mo.toNat = 1) := by unfold Hid checkM; rw [if_pos (.inr (.inl (by omega)))]
    have d1 : decide (288 < cs.length) = false := decide_eq_false b1
    have d2 : decide (mo < 1) = true := decide_eq_true b2
    go_enter Try.func22, Try.ntmps22
    go_wp2
    go_ret
    exact ⟨by rw [He.out]; rfl, rfl⟩
  by_cases b3 : 15 < mo
  · have He : Hid (checkM cs mo.toNat = 1) := by unfold Hid checkM; rw [if_pos (.inr (.inr (by omega)))]
    have d1 : decide (288 < cs.length) = false := decide_eq_false b1
    have d2 : decide (mo < 1) = false := decide_eq_false b2
    have d3 : decide (15 < mo) = true := decide_eq_true b3
    go_enter Try.func22, Try.ntmps22
    go_wp2
    go_ret
    exact ⟨by rw [He.out]; rfl, rfl⟩
  have Hck : Hid (checkM cs mo.toNat = if ∃ c ∈ cs, c < 0 ∨ 2147483648 < c then 1 else if 2 ^ mo.toNat < (firstM cs).length then 5 else 0) := by
    unfold Hid; conv => lhs; unfold checkM
    rw [if_neg (by omega)]
  have d1 : decide (288 < cs.length) = false := decide_eq_false b1
  have d2 : decide (mo < 1) = false := decide_eq_false b2
  have d3 : decide (15 < mo) = false := decide_eq_false b3
  obtain ⟨M, rfl⟩ : ∃ M : Nat, mo = M := ⟨mo.toNat, by omega⟩
  rw [Int.toNat_natCast] at Hck ⊢
  have hM1 : 1 ≤ M := by omega
  have hM2 : M ≤ 15 := by omega
  have hcl : cs.length ≤ 288 := by omega
  go_enter Try.func22, Try.ntmps22
  go_wp2
  go_loop [5, 21] (fun s i => ∃ (k q : Nat), k ≤ cs.length ∧ q ≤ k ∧ Hid (q = (firstM (cs.take k)).length) ∧ Hid (∀ c ∈ cs.take k, 0 ≤ c ∧ c ≤ 2147483648) ∧ s = .int .i64 q ∧ i = .int .i64 k) (fun _ i => cs.length - (intOf i).toNat)
  case atStart => exact ⟨0, 0, by omega, by omega, by unfold Hid; simp [firstM], by unfold Hid; simp, rfl, rfl⟩
  case round =>
    obtain ⟨k, q, hk, hq, Hq, Hg, rfl, rfl⟩ := hrel
    by_cases hlt : k < cs.length
    · obtain ⟨ba, oa, rfl, -, hcell⟩ := Hc.out k hlt
      obtain ⟨x, Hx⟩ : ∃ x, Hid (x = cs[k]) := ⟨_, Lib.hid rfl⟩
      rw [← Hx.out] at hcell
      have hd : decide (k < cs.length) = true := decide_eq_true hlt
      have hmem : x ∈ cs := by rw [Hx.out]; exact List.getElem_mem _
      by_cases h0 : x < 0
      · have d4 : decide (x < 0) = true := decide_eq_true h0
        have He : Hid (checkM cs M = 1) := by unfold Hid; rw [Hck.out, if_pos ⟨x, hmem, .inl h0⟩]
        clear hmem
        go_wp2
        go_ret
        exact ⟨by rw [He.out]; rfl, rfl⟩
      · by_cases h3 : 2147483648 < x
        · have d4 : decide (x < 0) = false := decide_eq_false h0
          have d5 : decide (2147483648 < x) = true := decide_eq_true h3
          have He : Hid (checkM cs M = 1) := by unfold Hid; rw [Hck.out, if_pos ⟨x, hmem, .inr h3⟩]
          clear hmem
          go_wp2
          go_ret
          exact ⟨by rw [He.out]; rfl, rfl⟩
        · have d4 : decide (x < 0) = false := decide_eq_false h0
          have d5 : decide (2147483648 < x) = false := decide_eq_false h3
          have hfs := firstM_succ cs k hlt
          rw [← Hx.out] at hfs
          have Hfs := Lib.hid hfs
          have Hg2 : Hid (∀ c ∈ cs.take (k + 1), 0 ≤ c ∧ c ≤ 2147483648) := by
            unfold Hid
            intro y hy
            rw [List.take_succ_eq_append_getElem hlt, List.mem_append] at hy
            rcases hy with hy | hy
            · exact Hg.out y hy
            · simp only [List.mem_singleton] at hy; rw [← Hx.out] at hy; omega
          clear hfs hmem
          by_cases hpos : 0 < x
          · have d6 : decide (0 < x) = true := decide_eq_true hpos
            go_wp2
            refine ⟨⟨k + 1, q + 1, by omega, by omega, ?_, Hg2.out, by go_num, by go_num⟩, by simp [intOf]; omega⟩
            unfold Hid; rw [Hfs.out, if_pos hpos, List.length_append, ← Hq.out]; rfl
          · have d6 : decide (0 < x) = false := decide_eq_false hpos
            go_wp2
            refine ⟨⟨k + 1, q, by omega, by omega, ?_, Hg2.out, rfl, by go_num⟩, by simp [intOf]; omega⟩
            unfold Hid; rw [Hfs.out, if_neg hpos, List.append_nil, ← Hq.out]
    · have hd : decide (k < cs.length) = false := decide_eq_false hlt
      obtain rfl : k = cs.length := by omega
      have hg := Hg.out
      have hq2 := Hq.out
      rw [List.take_length] at hg hq2
      have Hno : Hid (¬ ∃ c ∈ cs, c < 0 ∨ 2147483648 < c) := by rintro ⟨c, hc, h⟩; have := hg c hc; omega
      have He : Hid (checkM cs M = if 2 ^ M < q then 5 else 0) := by unfold Hid; rw [Hck.out, if_neg Hno.out, hq2]
      clear hg hq2
      obtain ⟨P, HP⟩ : ∃ P : Nat, Hid (P = 2 ^ M) := ⟨_, Lib.hid rfl⟩
      have hP : P ≤ 32768 := pow15N HP.out hM2
      rw [← HP.out] at He
      have hPI : (2 : Int) ^ M = (P : Int) := powI HP.out
      by_cases hbig : P < q
      · have d7 : decide (P < q) = true := decide_eq_true hbig
        go_wp2
        all_goals
          go_ret
          exact ⟨by rw [He.out, if_pos hbig]; rfl, rfl⟩
      · have d7 : decide (P < q) = false := decide_eq_false hbig
        go_wp2
        all_goals
          go_ret
          exact ⟨by rw [He.out, if_neg hbig]; rfl, rfl⟩

theorem pow15 (M : Nat) (h : M ≤ 15) : (2147483648 : Int) * 2 ^ M ≤ 70368744177664 := by
  obtain ⟨P, hP⟩ : ∃ P : Nat, P = 2 ^ M := ⟨_, rfl⟩
  rw [powI hP]
  have := pow15N hP h
  omega

set_option maxRecDepth 100000 in
set_option maxHeartbeats 8000000 in
theorem least_any {w : World} {Rs : List Res} (hS : Sat w Rs) (v : Value) (ps : List Int) (hv : ∀ w', Sat w' Rs → IntsR w' v ps) (M : Nat) (hM2 : M ≤ 15) (hpl : ps.length ≤ 288) (hps : ∀ c ∈ ps, 0 ≤ c ∧ c ≤ 2147483648) :
    Calls Try.prog 23 #[v, .int .i64 M] w fun e w' => e = .returned (.int .i64 (leastM ps M)) ∧ Sat w' Rs := by
  obtain ⟨ao, cap, rfl, hpc, -, -⟩ := (hv w hS).cell
  obtain ⟨i0, hi, ji0, ji1, ji2⟩ := info_parts Try.infoIntL
  have Hv := Lib.hid hv
  have Hok : Hid (∀ k, k ≤ M → ∀ c ∈ rowK ps k, 0 ≤ c ∧ c ≤ 70368744177664) := by
    intro k hk c hc
    have h1 := rowK_ok ps hps k c hc
    have h2 := pow15 k (by omega)
    omega
  have HL : Hid (∀ k, (rowK ps k).length ≤ 576) := fun k => by have := rowK_length ps k; omega
  clear hv hps
  go_enter Try.func23, Try.ntmps23
  go_wp2
  go_loopw [5, 6] (fun rv nv wr => ∃ (j q n : Nat), j + q = M ∧ n ≤ 576 ∧ Hid (n = (rowK ps j).length) ∧ nv = .int .i64 q ∧ Hid (Sat wr (intS n rv (rowK ps j) :: Rs))) (fun _ nv _ => (intOf nv).toNat)
  case atStart => exact ⟨0, M, 0, by omega, by omega, rfl, rfl, hS.sl_nil 3 1 none⟩
  case round =>
    obtain ⟨j, q, n, hjq, hn, Hn, rfl, HS⟩ := hrel
    clear hS
    obtain ⟨_, ro, rcap, rfl, -, -, -, -⟩ := HS.out.at_ 0 _ rfl
    by_cases hq0 : 0 < q
    · have hd0 : decide ((0 : Int) < (q : Int)) = true := decide_eq_true (by omega)
      have hd1 : decide (0 < q) = true := decide_eq_true hq0
      obtain ⟨R, HR⟩ : ∃ R, Hid (R = rowK ps j) := ⟨_, Lib.hid rfl⟩
      have HRn : Hid (R.length = n) := by unfold Hid; rw [HR.out, Hn.out]
      have HRok : Hid (∀ c ∈ R, 0 ≤ c ∧ c ≤ 70368744177664) := by rw [HR.out]; exact Hok.out j (by omega)
      have Hnext : Hid (rowK ps (j + 1) = sortG idI (pairsI R ++ ps)) := by unfold Hid; rw [HR.out]; rfl
      have HS1 := Lib.hid HS.out
      rw [← HR.out] at HS1
      clear HS Hn
      go_wp2
      go_loopw [7, 8] (fun pv iv wr => ∃ (t p m : Nat), Hid (p = 2 * t) ∧ p ≤ n ∧ m ≤ 576 ∧ Hid (m = (pairsI (R.take p)).length) ∧ iv = .int .i64 p ∧ Hid (Sat wr (intS m pv (pairsI (R.take p)) :: intS n (.slice ro n rcap) R :: Rs))) (fun _ iv _ => n - (intOf iv).toNat)
      case atStart => exact ⟨0, 0, 0, rfl, by omega, by omega, by simp [Hid, pairsI], rfl, HS1.out.sl_nil 3 1 none⟩
      case round =>
        obtain ⟨t, p, m, Hp, hpn, hm, Hm, rfl, HS2⟩ := hrel
        clear HS1
        obtain ⟨_, pO, pcap, rfl, -, -, -, -⟩ := HS2.out.at_ 0 _ rfl
        by_cases hlt : p + 1 < n
        · have hd2 : decide ((p : Int) + 1 < (n : Int)) = true := decide_eq_true (by omega)
          have hp1 : 2 * t + 1 < R.length := by rw [HRn.out, ← Hp.out]; exact hlt
          obtain ⟨x, hx⟩ : ∃ x, R[2 * t] = x := ⟨_, rfl⟩
          obtain ⟨y, hy⟩ : ∃ y, R[2 * t + 1] = y := ⟨_, rfl⟩
          have hx0 := HRok.out x (by rw [← hx]; exact List.getElem_mem _)
          have hy0 := HRok.out y (by rw [← hy]; exact List.getElem_mem _)
          have hnx : pairsI (R.take (p + 2)) = pairsI (R.take p) ++ [x + y] := by
            have h := pairsI_take R t hp1
            rw [hx, hy] at h
            rw [Hp.out, show 2 * t + 2 = 2 * (t + 1) by omega]
            exact h
          obtain ⟨b0, off, cap', heq, hb0, hff, hcc⟩ := int_cells (Sat.front HS2.out 1 _ rfl) (by omega)
          simp only [Value.slice.injEq, true_and] at heq
          obtain ⟨rfl, rfl⟩ := heq
          have c1 := hcc p x (by rw [Hp.out, List.getElem?_eq_getElem (by omega), hx])
          have c2 := hcc (p + 1) y (by rw [Hp.out, List.getElem?_eq_getElem (by omega), hy])
          have hw1 : IntKind.i64.wrap (p : Int) = p := i64_id _ (by omega) (by omega)
          have hw2 : IntKind.i64.wrap ((p : Int) + 1) = p + 1 := i64_id _ (by omega) (by omega)
          have hw3 : IntKind.i64.wrap (x + y) = x + y := i64_id _ (by omega) (by omega)
          have hz1 : (0 : Int) ≤ (p : Int) := by omega
          have hz2 : (p : Int) < (n : Int) := by omega
          have hz3 : (0 : Int) ≤ (p : Int) + 1 := by omega
          have hz4 : (p : Int) + 1 < (n : Int) := by omega
          have Hxy : Hid (R[p]? = some x ∧ R[p + 1]? = some y) := ⟨by rw [Hp.out, List.getElem?_eq_getElem (by omega), hx], by rw [Hp.out, List.getElem?_eq_getElem (by omega), hy]⟩
          have hmt : m ≤ 288 := by rw [Hm.out, pairsI_length, List.length_take]; omega
          have Hnx := Lib.hid hnx
          have HS3 := Lib.hid HS2.out.drew
          have hS0 : wr.drew.cell? ⟨b0, off + p, none⟩ = some (.int .i64 x) ∧ wr.drew.cell? ⟨b0, off + (p + 1), none⟩ = some (.int .i64 y) := ⟨c1, c2⟩
          clear hcc hff hx hy hnx HS2 c1 c2 hp1
          go_wp2_with fail
          refine wp_region_hz (z := 13) (S := fun w' => w'.cell? ⟨b0, off + p, none⟩ = some (.int .i64 x) ∧ w'.cell? ⟨b0, off + (p + 1), none⟩ = some (.int .i64 y)) (by kernel_rfl) hS0 (fun hHeld => ?_)
          refine wpHz_taken 0 23 ?v1 (by kernel_rfl) (by kernel_rfl) (by kernel_rfl) (by kernel_rfl) (by kernel_rfl) (fun _ _ _ h => h) (by rfl) ?hy1 (by assumption) ?rest1
          case hy1 => intro w hSw; (try dsimp only at hSw); simp only [List.getElem?_toArray, List.getElem?_cons_zero, List.getElem?_cons_succ]; go_simp; (try with_reducible rfl)
          try simp only [Act.put, List.setIfInBounds_toArray, List.set_cons_zero, List.set_cons_succ]
          refine wpHz_taken 1 24 ?v2 (by kernel_rfl) (by kernel_rfl) (by kernel_rfl) (by kernel_rfl) (by kernel_rfl) (fun _ _ _ h => h) (by rfl) ?hy2 (by assumption) ?rest2
          case hy2 => intro w hSw; (try dsimp only at hSw); simp only [List.getElem?_toArray, List.getElem?_cons_zero, List.getElem?_cons_succ]; go_simp; (try with_reducible rfl)
          try simp only [Act.put, List.setIfInBounds_toArray, List.set_cons_zero, List.set_cons_succ]
          refine wpHz_taken 2 25 ?v3 (by kernel_rfl) (by kernel_rfl) (by kernel_rfl) (by kernel_rfl) (by kernel_rfl) (fun _ _ _ h => h) (by rfl) ?hy3 (by assumption) ?rest3
          case hy3 => intro w hSw; (try dsimp only at hSw); simp only [List.getElem?_toArray, List.getElem?_cons_zero, List.getElem?_cons_succ]; go_simp; (try with_reducible rfl)
          try simp only [Act.put, List.setIfInBounds_toArray, List.set_cons_zero, List.set_cons_succ]
          refine wpHz_taken 3 26 ?v4 (by kernel_rfl) (by kernel_rfl) (by kernel_rfl) (by kernel_rfl) (by kernel_rfl) (fun _ _ _ h => h) (by rfl) ?hy4 (by assumption) ?rest4
          case hy4 => intro w hSw; (try dsimp only at hSw); simp only [List.getElem?_toArray, List.getElem?_cons_zero, List.getElem?_cons_succ]; go_simp; (try with_reducible rfl)
          try simp only [Act.put, List.setIfInBounds_toArray, List.set_cons_zero, List.set_cons_succ]
          refine wpHz_taken 4 27 ?v5 (by kernel_rfl) (by kernel_rfl) (by kernel_rfl) (by kernel_rfl) (by kernel_rfl) (fun _ _ _ h => h) (by rfl) ?hy5 (by assumption) ?rest5
          case hy5 => intro w hSw; (try dsimp only at hSw); simp only [List.getElem?_toArray, List.getElem?_cons_zero, List.getElem?_cons_succ]; go_simp; (try with_reducible rfl)
          try simp only [Act.put, List.setIfInBounds_toArray, List.set_cons_zero, List.set_cons_succ]
          refine wpHz_taken 5 28 ?v6 (by kernel_rfl) (by kernel_rfl) (by kernel_rfl) (by kernel_rfl) (by kernel_rfl) (fun _ _ _ h => h) (by rfl) ?hy6 (by assumption) ?rest6
          case hy6 => intro w hSw; (try dsimp only at hSw); simp only [List.getElem?_toArray, List.getElem?_cons_zero, List.getElem?_cons_succ]; go_simp; (try with_reducible rfl)
          try simp only [Act.put, List.setIfInBounds_toArray, List.set_cons_zero, List.set_cons_succ]
          refine wpHz_taken 6 29 ?v7 (by kernel_rfl) (by kernel_rfl) (by kernel_rfl) (by kernel_rfl) (by kernel_rfl) (fun _ _ _ h => h) (by rfl) ?hy7 (by assumption) ?rest7
          case hy7 => intro w hSw; (try dsimp only at hSw); simp only [List.getElem?_toArray, List.getElem?_cons_zero, List.getElem?_cons_succ]; go_simp; (try with_reducible rfl)
          try simp only [Act.put, List.setIfInBounds_toArray, List.set_cons_zero, List.set_cons_succ]
          refine wpHz_taken 7 30 ?v8 (by kernel_rfl) (by kernel_rfl) (by kernel_rfl) (by kernel_rfl) (by kernel_rfl) (fun _ _ _ h => h) (by rfl) ?hy8 (by assumption) ?rest8
          case hy8 => intro w hSw; (try dsimp only at hSw); simp only [List.getElem?_toArray, List.getElem?_cons_zero, List.getElem?_cons_succ]; go_simp; (try with_reducible rfl)
          try simp only [Act.put, List.setIfInBounds_toArray, List.set_cons_zero, List.set_cons_succ]
          refine wpHz_taken 8 31 ?v9 (by kernel_rfl) (by kernel_rfl) (by kernel_rfl) (by kernel_rfl) (by kernel_rfl) (fun _ _ _ h => h) (by rfl) ?hy9 (by assumption) ?rest9
          case hy9 => intro w hSw; (try dsimp only at hSw); simp only [List.getElem?_toArray, List.getElem?_cons_zero, List.getElem?_cons_succ]; go_simp; (try with_reducible rfl)
          try simp only [Act.put, List.setIfInBounds_toArray, List.set_cons_zero, List.set_cons_succ]
          refine wpHz_taken 9 32 ?v10 (by kernel_rfl) (by kernel_rfl) (by kernel_rfl) (by kernel_rfl) (by kernel_rfl) (fun _ _ _ h => h) (by rfl) ?hy10 (by assumption) ?rest10
          case hy10 => intro w hSw; (try dsimp only at hSw); simp only [List.getElem?_toArray, List.getElem?_cons_zero, List.getElem?_cons_succ]; go_simp; (try with_reducible rfl)
          try simp only [Act.put, List.setIfInBounds_toArray, List.set_cons_zero, List.set_cons_succ]
          refine wpHz_taken 10 33 ?v11 (by kernel_rfl) (by kernel_rfl) (by kernel_rfl) (by kernel_rfl) (by kernel_rfl) (fun _ _ _ h => h) (by rfl) ?hy11 (by assumption) ?rest11
          case hy11 => intro w hSw; (try dsimp only at hSw); simp only [List.getElem?_toArray, List.getElem?_cons_zero, List.getElem?_cons_succ]; go_simp; (try with_reducible rfl)
          try simp only [Act.put, List.setIfInBounds_toArray, List.set_cons_zero, List.set_cons_succ]
          have hB1 := HS3.out.sl_made (e := 3) (size := 1) (n := 1) (cap := 1) (cur := #[.int .i64 (x + y)]) (xs := [x + y].map intV) (by omega) (by decide) rfl (by simp) (fun j u hu => by simpa [intV] using hu)
          have hsrc := SlR.src (P := Try.prog) hB1.sl_read Try.underlying22 (intV_one _)
          have hB2 := Sat.perm (As := [_, _, _]) hB1 [1, 2] [_, _] rfl (by simp)
          have Hsrc := Lib.hid hsrc
          have HB2 := Lib.hid hB2
          have Hx : Hid (R[p]? = some x ∧ R[p + 1]? = some y) := Hxy
          have hn0 : 0 < n := by omega
          clear hB1 hsrc hB2
          refine wpHz_one 11 (by kernel_rfl) (by rfl) (fun K hK => ?_)
          simp only [List.getElem?_toArray, List.getElem?_cons_zero, List.getElem?_cons_succ]
          go_simp
          clear hHeld
          refine hK.out _ _ (fun _ => ⟨(World.cell?_alloc_lt (w := wr) (o := .cells #[.int .i64 (x + y)] 3) (a := ⟨b0, off + p, none⟩) hb0).trans hS0.1, (World.cell?_alloc_lt (w := wr) (o := .cells #[.int .i64 (x + y)] 3) (a := ⟨b0, off + (p + 1), none⟩) hb0).trans hS0.2⟩) (fun hHeld => ?_)
          replace hHeld := hHeld (by decide)
          clear hK K
          try simp only [Act.put, List.setIfInBounds_toArray, List.set_cons_zero, List.set_cons_succ]
          refine wpHz_one 12 (by kernel_rfl) (by rfl) (fun K hK => ?_)
          simp only [List.getElem?_toArray, List.getElem?_cons_zero, List.getElem?_cons_succ]
          refine wp_append_sat _ _ _ 22 22 rfl 3 i0 (.int .i64 0) 1 8 Try.underlying22 hi ji0 ji1 ji2 rfl (by decide) m _ _ _ rfl HB2.out 1 _ _ rfl Hsrc.out (by unfold maxLen; omega) (by omega) ?_
          intro v9 w9 hS9
          rw [← List.map_append, ← Hnx.out] at hS9
          obtain ⟨_, ao9, cap9, rfl, -, -, -, -⟩ := hS9.at_ 0 _ rfl
          clear hHeld
          refine hK.out _ _ (fun _ => ⟨int_at (Sat.front hS9 1 _ rfl) Hx.out.1 hn0, int_at (Sat.front hS9 1 _ rfl) Hx.out.2 hn0⟩) (fun hHeld => ?_)
          replace hHeld := hHeld (by decide)
          clear hK K
          try simp only [Act.put, List.setIfInBounds_toArray, List.set_cons_zero, List.set_cons_succ]
          have HS9 := Lib.hid hS9
          clear hS9 HB2 Hsrc
          refine wpHz_one 13 (by kernel_rfl) (by rfl) (fun K hK => ?_)
          simp only [List.getElem?_toArray, List.getElem?_cons_zero, List.getElem?_cons_succ]
          go_simp
          refine hK.out _ _ (fun h => absurd rfl h) (fun _ => ?_)
          clear hK K
          try simp only [Act.put, List.setIfInBounds_toArray, List.set_cons_zero, List.set_cons_succ]
          refine wpHz_done (by kernel_rfl) ?_ _
          clear hHeld hS0
          go_wp2
          refine ⟨⟨t + 1, p + 2, m + 1, by unfold Hid; rw [Hp.out]; omega, by omega, by omega, ?_, by go_num, HS9.out⟩, by simp [intOf]; omega⟩
          unfold Hid; rw [Hnx.out, List.length_append, ← Hm.out]; rfl
        · have hd2 : decide ((p : Int) + 1 < (n : Int)) = false := decide_eq_false (by omega)
          have he : pairsI (R.take p) = pairsI R := by
            rw [Hp.out]; exact pairsI_end R t (by rw [HRn.out, ← Hp.out]; omega) (by rw [HRn.out, ← Hp.out]; exact hpn)
          have HS4 := Lib.hid HS2.out
          have hm3 := Hm.out
          rw [he] at HS4 hm3
          have hml : m ≤ 288 := by rw [hm3, pairsI_length, HRn.out]; omega
          have Hm3 := Lib.hid hm3
          have hsrc := SlR.src (P := Try.prog) (Hv.out _ HS4.out.tail.tail) Try.underlying22 (intV_one ps)
          have Hsrc := Lib.hid hsrc
          obtain ⟨nn, Hnn⟩ : ∃ nn, Hid (nn = (pairsI R ++ ps).length) := ⟨_, Lib.hid rfl⟩
          have hnn : nn ≤ 576 := by rw [Hnn.out, List.length_append, ← Hm3.out]; omega
          clear he hm3 hsrc HS2
          go_wp2_with (first
            | (at_builtin; refine wpList_append_sat _ rfl _ _ 22 22 rfl 3 i0 (.int .i64 0) 1 8 Try.underlying22 hi ji0 ji1 ji2 rfl (by decide) m _ _ _ rfl HS4.out ps.length _ _ rfl Hsrc.out (by unfold maxLen; omega) (by omega) ?_; intro v9 w9 hS9; rw [← List.map_append] at hS9; obtain ⟨_, so, sap, hv9, -, -, -, -⟩ := hS9.at_ 0 _ rfl; subst hv9; have Hso := Lib.hid (sorted_any hS9 _ (pairsI R ++ ps) (fun w' h' => by have h := h'.sl_read; unfold IntsR; rw [List.length_append, ← Hm3.out]; exact h) (by rw [List.length_append, ← Hm3.out]; omega)); clear hS9 HS4 Hsrc)
            | (go_at_call 54; refine Hso.out.mono ?_; rintro e' w5 ⟨ov, rfl, hS5⟩; rw [← Hnext.out, ← Hnn.out] at hS5; obtain ⟨_, zo, zap, rfl, -, -, -, -⟩ := hS5.at_ 0 _ rfl; have HS5 := Lib.hid hS5; clear hS5 Hso))
          refine ⟨⟨j + 1, q - 1, nn, by omega, hnn, ?_, ?_, ?_⟩, by simp [intOf]; omega⟩
          · unfold Hid; rw [Hnext.out, sortG_length, Hnn.out]
          · exact vi (by omega)
          · exact Sat.perm (As := [_, _, _]) HS5.out [0] [_] rfl (by simp)
    · obtain rfl : q = 0 := by omega
      obtain rfl : j = M := by omega
      obtain ⟨R, HR⟩ : ∃ R, Hid (R = rowK ps j) := ⟨_, Lib.hid rfl⟩
      have HRn : Hid (R.length = n) := by unfold Hid; rw [HR.out, Hn.out]
      have HRok : Hid (∀ c ∈ R, 0 ≤ c ∧ c ≤ 70368744177664) := by rw [HR.out]; exact Hok.out j (by omega)
      have Hle : Hid (leastM ps j = (R.take (2 * ps.length - 2)).sum) := by unfold Hid; rw [HR.out]; rfl
      have HS1 := Lib.hid HS.out
      rw [← HR.out] at HS1
      have hd0 : decide ((0 : Int) < ((0 : Nat) : Int)) = false := rfl
      obtain ⟨T, HT⟩ : ∃ T, Hid (T = 2 * ps.length - 2) := ⟨_, Lib.hid rfl⟩
      rw [← HT.out] at Hle
      clear HS Hn hd0
      go_wp2
      go_loopw [9, 10] (fun sv iv wr => ∃ (k : Nat) (z : Int), k ≤ n ∧ k ≤ T ∧ iv = .int .i64 k ∧ sv = .int .i64 z ∧ Hid (z = (R.take k).sum) ∧ 0 ≤ z ∧ z ≤ (k : Int) * 70368744177664 ∧ Hid (Sat wr (intS n (.slice ro n rcap) R :: Rs))) (fun _ iv _ => n - (intOf iv).toNat)
      case atStart => exact ⟨0, 0, by omega, by omega, rfl, rfl, by simp [Hid], by omega, by omega, HS1.out⟩
      case round =>
        obtain ⟨k, z, hk, hkT, rfl, rfl, Hz, hz0', hz1', HS2⟩ := hrel
        clear HS1
        by_cases h1 : k < T
        · have hd1 : decide ((k : Int) < 2 * (ps.length : Int) - 2) = true := decide_eq_true (by have := HT.out; omega)
          by_cases h2 : k < n
          · have hd2 : decide ((k : Int) < (n : Int)) = true := decide_eq_true (by omega)
            have hd3 : decide (k < n) = true := decide_eq_true h2
            obtain ⟨x, hx⟩ : ∃ x, R[k]? = some x := ⟨_, List.getElem?_eq_getElem (by rw [HRn.out]; exact h2)⟩
            have hx0 := HRok.out x (List.mem_of_getElem? hx)
            obtain ⟨b0, off, cap', heq, hb0, hff, hcc⟩ := int_cells HS2.out (by omega)
            simp only [Value.slice.injEq, true_and] at heq
            obtain ⟨rfl, rfl⟩ := heq
            have c1 := hcc k x hx
            have hsum : (R.take (k + 1)).sum = z + x := by
              have hkl : k < R.length := by rw [HRn.out]; exact h2
              rw [List.take_succ_eq_append_getElem hkl, List.sum_append, ← Hz.out]
              rw [List.getElem?_eq_getElem hkl] at hx
              cases hx; simp
            have Hsum := Lib.hid hsum
            have hzx : -9223372036854775808 ≤ z + x ∧ z + x ≤ 9223372036854775807 := by omega
            obtain ⟨hzx1, hzx2⟩ := hzx
            clear hcc hff hx hsum
            go_wp2
            refine ⟨⟨k + 1, z + x, by omega, by omega, by go_num, rfl, Hsum.out.symm, by omega, by omega, HS2.out⟩, by simp [intOf]; omega⟩
          · have hd2 : decide ((k : Int) < (n : Int)) = false := decide_eq_false (by omega)
            have hd3 : decide (k < n) = false := decide_eq_false h2
            have He : Hid (z = leastM ps j) := by
              unfold Hid
              rw [Hle.out, Hz.out, List.take_of_length_le (by rw [HRn.out]; omega), List.take_of_length_le (by rw [HRn.out]; omega)]
            go_wp2
            go_ret
            exact ⟨ret_int He.out, HS2.out.tail⟩
        · have hd1 : decide ((k : Int) < 2 * (ps.length : Int) - 2) = false := decide_eq_false (by have := HT.out; omega)
          have He : Hid (z = leastM ps j) := by
            unfold Hid
            rw [Hle.out, Hz.out, show k = T by omega]
          go_wp2
          all_goals
            go_ret
            exact ⟨ret_int He.out, HS2.out.tail⟩

end Go.Proofs.Ytobkmkdnkdbgeaa
