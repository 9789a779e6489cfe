/- slices.SortStableFunc at huff's parcels: swapRange, rotate. -/
import Derived.Test.YtobkmkdnkdbgeaaQc
import Derived.Test.YtobkmkdnkdbgeaaSymM
import Derived.BigRegion
import Derived.OwnWalk
import Derived.Handy
namespace Go.Proofs.Ytobkmkdnkdbgeaa
open Go.RowKit Go.Hal
set_option linter.unusedVariables false
set_option linter.unusedSimpArgs false

theorem swap_mid (A B C : List Par) (x y : Par) : ((A ++ x :: (B ++ y :: C)).set A.length y).set (A.length + 1 + B.length) x = A ++ y :: (B ++ x :: C) := by
  rw [show (A ++ x :: (B ++ y :: C)).set A.length y = A ++ y :: (B ++ y :: C) by simp [List.set_append]]
  rw [List.set_append_right _ _ (by omega), show A.length + 1 + B.length - A.length = B.length + 1 by omega, List.set_cons_succ, List.set_append_right _ _ (by omega)]
  simp
theorem mid_at (A B C : List Par) (x y : Par) : (A ++ x :: (B ++ y :: C))[A.length]? = some x ∧ (A ++ x :: (B ++ y :: C))[A.length + 1 + B.length]? = some y := by
  constructor
  · simp
  · rw [List.getElem?_append_right (by omega), show A.length + 1 + B.length - A.length = B.length + 1 by omega, List.getElem?_cons_succ, List.getElem?_append_right (by omega)]
    simp

abbrev parS (N : Nat) (v : Value) (ps : List Par) : Res := sl 92 2 N v (parC ps)
abbrev Par.w (p : Par) : Value := .slice (some ⟨p.b, p.off, none⟩) p.n p.cap

theorem par_swap {w : World} {b off N cap : Nat} {ps : List Par} {Rs : List Res} (hS : Sat w (parS N (.slice (some ⟨b, off, none⟩) N cap) ps :: Rs)) (hN : ps.length = N) (i j : Nat) (x y : Par) (hi : i < N) (hj : j < N) :
    Sat ((((w.setCell ⟨b, off + i * 2, none⟩ (.int .i64 y.cost)).setCell ⟨b, off + i * 2 + 1, none⟩ y.w).setCell ⟨b, off + j * 2, none⟩ (.int .i64 x.cost)).setCell ⟨b, off + j * 2 + 1, none⟩ x.w) (parS N (.slice (some ⟨b, off, none⟩) N cap) ((ps.set i y).set j x) :: Rs) := by
  have r1 := (((hS.sl_set (i * 2) (by rw [parC_length]; omega) (.int .i64 y.cost)).sl_set (i * 2 + 1) (by rw [List.length_set, parC_length]; omega) y.w).sl_set (j * 2) (by rw [List.length_set, List.length_set, parC_length]; omega) (.int .i64 x.cost)).sl_set (j * 2 + 1) (by rw [List.length_set, List.length_set, List.length_set, parC_length]; omega) x.w
  have e5 := parC_set ps i y (by omega)
  have e6 := parC_set (ps.set i y) j x (by rw [List.length_set]; omega)
  rw [← e5] at e6
  unfold Par.v at e6
  rw [e6] at r1
  exact r1

/-- The cells of the parcel at a place. -/
theorem par_cells {w : World} {v : Value} {N : Nat} {ps : List Par} {Rs : List Res} (hS : Sat w (parS N v ps :: Rs)) (hn : 0 < N) :
    ∃ b off cap, v = .slice (some ⟨b, off, none⟩) N cap ∧ b < w.heap.size ∧ (∀ k, w.frozen? ⟨b, off + k, none⟩ = false) ∧
      ∀ i p, ps[i]? = some p → w.cell? ⟨b, off + i * 2, none⟩ = some (.int .i64 p.cost) ∧ w.cell? ⟨b, off + i * 2 + 1, none⟩ = some p.w := by
  obtain ⟨b0, off, cap', heq, -, hcm, hb0, hcc, hff⟩ := hS.sl_cells hn
  refine ⟨b0, off, cap', heq, hb0, hff, fun i p hp => ?_⟩
  obtain ⟨g1, g2⟩ := parC_get' hp
  have c2 := hcc _ _ g2
  rw [← Nat.add_assoc] at c2
  exact ⟨hcc _ _ g1, c2⟩

set_option maxRecDepth 100000 in
set_option maxHeartbeats 4000000 in
theorem swapRange_any {w : World} {v : Value} {N : Nat} {Rs : List Res} (pre X M Y suf : List Par) (hS : Sat w (parS N v (pre ++ X ++ M ++ Y ++ suf) :: Rs)) (hN : N = (pre ++ X ++ M ++ Y ++ suf).length) (hN2 : N ≤ 1048576) (hXY : X.length = Y.length)
    (a b n : Nat) (ha : a = pre.length) (hb : b = pre.length + X.length + M.length) (hn : n = X.length) (fv : Value) :
    Calls Try.prog 93 #[v, .int .i64 a, .int .i64 b, .int .i64 n, fv] w fun e w' => e = .returned (.tuple #[]) ∧ Sat w' (parS N v (pre ++ Y ++ M ++ X ++ suf) :: Rs) := by
  obtain ⟨F, ao, cap, rfl, -, -, -, -⟩ := hS.first
  have HN := Lib.hid hN
  have HX := Lib.hid hXY
  have hbn : b + n ≤ N := by rw [hN, hb, hn]; simp; omega
  have hab : a + n ≤ b := by rw [ha, hb, hn]; omega
  have Ha := Lib.hid ha
  have Hb := Lib.hid hb
  have Hn := Lib.hid hn
  clear hN hXY ha hb hn
  go_enter Try.func93, Try.ntmps93
  go_wp2
  go_loopw [10] (fun i wr => ∃ k : Nat, k ≤ n ∧ i = .int .i64 k ∧ Hid (Sat wr (parS N (.slice ao N cap) (pre ++ Y.take k ++ X.drop k ++ M ++ X.take k ++ Y.drop k ++ suf) :: Rs))) (fun i _ => n - (intOf i).toNat)
  case atStart => exact ⟨0, by omega, rfl, by unfold Hid; simpa using hS⟩
  case round =>
    obtain ⟨k, hk, rfl, HS⟩ := hrel
    clear hS
    by_cases hkn : k < n
    · have hd : decide ((k : Int) < (n : Int)) = true := decide_eq_true (by omega)
      have hkX : k < X.length := by rw [← Hn.out]; exact hkn
      have hkY : k < Y.length := by rw [← HX.out]; exact hkX
      obtain ⟨x, hx⟩ : ∃ x, X[k] = x := ⟨_, rfl⟩
      obtain ⟨y, hy⟩ : ∃ y, Y[k] = y := ⟨_, rfl⟩
      have eX : X.drop k = x :: X.drop (k + 1) := by rw [List.drop_eq_getElem_cons hkX, hx]
      have eY : Y.drop k = y :: Y.drop (k + 1) := by rw [List.drop_eq_getElem_cons hkY, hy]
      have tX : X.take (k + 1) = X.take k ++ [x] := by rw [List.take_succ_eq_append_getElem hkX, hx]
      have tY : Y.take (k + 1) = Y.take k ++ [y] := by rw [List.take_succ_eq_append_getElem hkY, hy]
      obtain ⟨A, HA⟩ : ∃ A, Hid (pre ++ Y.take k = A) := ⟨_, Lib.hid rfl⟩
      obtain ⟨B, HB⟩ : ∃ B, Hid (X.drop (k + 1) ++ M ++ X.take k = B) := ⟨_, Lib.hid rfl⟩
      obtain ⟨C, HC⟩ : ∃ C, Hid (Y.drop (k + 1) ++ suf = C) := ⟨_, Lib.hid rfl⟩
      have hAl : A.length = a + k := by rw [← HA.out, Ha.out, List.length_append, List.length_take]; omega
      have hBl : A.length + 1 + B.length = b + k := by rw [hAl, ← HB.out, Ha.out, Hb.out]; simp; omega
      have hcat : pre ++ Y.take k ++ X.drop k ++ M ++ X.take k ++ Y.drop k ++ suf = A ++ x :: (B ++ y :: C) := by rw [eX, eY, ← HA.out, ← HB.out, ← HC.out]; simp [List.append_assoc]
      have hnext : A ++ y :: (B ++ x :: C) = pre ++ Y.take (k + 1) ++ X.drop (k + 1) ++ M ++ X.take (k + 1) ++ Y.drop (k + 1) ++ suf := by rw [tX, tY, ← HA.out, ← HB.out, ← HC.out]; simp [List.append_assoc]
      have hS1 := HS.out
      rw [hcat] at hS1
      have hlen : (A ++ x :: (B ++ y :: C)).length = N := by have := hS1.sl_read.len; rw [parC_length] at this; omega
      obtain ⟨b0, off, cap', heq, hb0, hff, hcc⟩ := par_cells hS1 (by omega)
      simp only [Value.slice.injEq, true_and] at heq
      obtain ⟨rfl, rfl⟩ := heq
      obtain ⟨p1, Hp1⟩ : ∃ p1, Hid (p1 = a + k) := ⟨_, Lib.hid rfl⟩
      obtain ⟨p2, Hp2⟩ : ∃ p2, Hid (p2 = b + k) := ⟨_, Lib.hid rfl⟩
      have hm := mid_at A B C x y
      rw [hBl, hAl, ← Hp1.out, ← Hp2.out] at hm
      obtain ⟨c1, c2⟩ := hcc _ _ hm.1
      obtain ⟨c3, c4⟩ := hcc _ _ hm.2
      have f1 := hff (p1 * 2)
      have f2 := hff (p1 * 2 + 1)
      have f3 := hff (p2 * 2)
      have f4 := hff (p2 * 2 + 1)
      rw [← Nat.add_assoc] at f2 f4
      have hi1 : (a : Int) + (k : Int) = (p1 : Int) := by rw [Hp1.out]; rfl
      have hi2 : (b : Int) + (k : Int) = (p2 : Int) := by rw [Hp2.out]; rfl
      have hp1N : p1 < N := by rw [Hp1.out]; omega
      have hp2N : p2 < N := by rw [Hp2.out]; omega
      have hw1 : IntKind.i64.wrap (p1 : Int) = p1 := i64_id _ (by omega) (by omega)
      have hw2 : IntKind.i64.wrap (p2 : Int) = p2 := i64_id _ (by omega) (by omega)
      have hz1 : (0 : Int) ≤ (p1 : Int) := by omega
      have hz2 : (0 : Int) ≤ (p2 : Int) := by omega
      have hz3 : (p1 : Int) < (N : Int) := by omega
      have hz4 : (p2 : Int) < (N : Int) := by omega
      have hne : ¬ p1 = p2 := by rw [Hp1.out, Hp2.out]; omega
      have Hsw := Lib.hid (fun W (h : Sat W (parS N (.slice (some ⟨b0, off, none⟩) N cap) (A ++ x :: (B ++ y :: C)) :: Rs)) => par_swap h hlen p1 p2 x y hp1N hp2N)
      have hsm := swap_mid A B C x y
      rw [hBl, hAl, ← Hp1.out, ← Hp2.out] at hsm
      rw [hsm, hnext] at Hsw
      have HS1 := Lib.hid hS1
      have Hlt : Hid (k < n) := hkn
      clear hm hcc hff hcat hnext hsm hlen hAl hBl tX tY eX eY hx hy HA HB HC HS hS1
      go_wp2_with fail
      go_region
      have HF := Lib.hid (Hsw.out _ HS1.out).drew
      clear c1 c2 c3 c4 f1 f2 f3 f4 Hsw HS1
      go_wp2
      exact ⟨⟨k + 1, Hlt.out, by go_num, HF.out⟩, by simp [intOf]; omega⟩
    · have hd : decide ((k : Int) < (n : Int)) = false := decide_eq_false (by omega)
      have hke : k = n := by omega
      have e : pre ++ Y.take k ++ X.drop k ++ M ++ X.take k ++ Y.drop k ++ suf = pre ++ Y ++ M ++ X ++ suf := by
        have := Hn.out
        have := HX.out
        rw [List.take_of_length_le (by omega), List.drop_of_length_le (by omega), List.take_of_length_le (by omega), List.drop_of_length_le (by omega)]; simp
      have hS2 := HS.out
      rw [e] at hS2
      have HS2 := Lib.hid hS2
      clear hS2 e HS hke
      go_wp2
      go_end0
      exact ⟨rfl, HS2.out⟩

set_option maxRecDepth 100000 in
set_option maxHeartbeats 4000000 in
theorem rotate_any {w : World} {v : Value} {N : Nat} {Rs : List Res} (pre U V suf : List Par) (hS : Sat w (parS N v (pre ++ U ++ V ++ suf) :: Rs)) (hN : N = (pre ++ U ++ V ++ suf).length) (hN2 : N ≤ 1048576) (hU : 0 < U.length) (hV : 0 < V.length)
    (a m b : Nat) (ha : a = pre.length) (hm : m = pre.length + U.length) (hb : b = pre.length + U.length + V.length) (fv : Value) :
    Calls Try.prog 92 #[v, .int .i64 a, .int .i64 m, .int .i64 b, fv] w fun e w' => e = .returned (.tuple #[]) ∧ Sat w' (parS N v (pre ++ V ++ U ++ suf) :: Rs) := by
  obtain ⟨F, ao, cap, rfl, -, -, -, -⟩ := hS.first
  have hbN : b ≤ N := by rw [hN, hb]; simp; omega
  obtain ⟨i0, Hi0⟩ : ∃ i0, Hid (i0 = U.length) := ⟨_, Lib.hid rfl⟩
  obtain ⟨j0, Hj0⟩ : ∃ j0, Hid (j0 = V.length) := ⟨_, Lib.hid rfl⟩
  have hi0 : (m : Int) - (a : Int) = (i0 : Int) := by rw [Hi0.out]; omega
  have hj0 : (b : Int) - (m : Int) = (j0 : Int) := by rw [Hj0.out]; omega
  have HN := Lib.hid hN
  have Hm := Lib.hid hm
  clear hN ha hm hb
  go_enter Try.func92, Try.ntmps92
  go_wp2
  go_loopw [10, 11] (fun iv jv wr => ∃ (L U1 V1 R : List Par) (i j : Nat), 0 < i ∧ 0 < j ∧ Hid (i = U1.length) ∧ Hid (j = V1.length) ∧ Hid (m = L.length + i) ∧ Hid (L ++ V1 ++ U1 ++ R = pre ++ V ++ U ++ suf) ∧ iv = .int .i64 i ∧ jv = .int .i64 j ∧ Hid (Sat wr (parS N (.slice ao N cap) (L ++ U1 ++ V1 ++ R) :: Rs))) (fun iv jv _ => (intOf iv + intOf jv).toNat)
  case atStart => exact ⟨pre, U, V, suf, i0, j0, by rw [Hi0.out]; exact hU, by rw [Hj0.out]; exact hV, Hi0.out, Hj0.out, by unfold Hid; rw [Hm.out, Hi0.out], rfl, rfl, rfl, hS⟩
  case round =>
    obtain ⟨L, U1, V1, R, i, j, hip, hjp, Hi, Hj, Hml, Hfin, rfl, rfl, HS⟩ := hrel
    clear hS
    have hlen : (L ++ U1 ++ V1 ++ R).length = N := by have := HS.out.sl_read.len; rw [parC_length] at this; omega
    have hmN : m + j ≤ N := by rw [← hlen, Hml.out, Hi.out, Hj.out]; simp; omega
    have him : i ≤ m := by have := Hml.out; omega
    have Hlen := Lib.hid hlen
    clear hlen
    by_cases hij : i = j
    · subst hij
      have hdI : ((i : Int) != (i : Int)) = false := by simp
      obtain ⟨q, Hq⟩ : ∃ q, Hid (q = m - i) := ⟨_, Lib.hid rfl⟩
      have hqI : (m : Int) - (i : Int) = (q : Int) := by rw [Hq.out]; omega
      have Hsw := Lib.hid (swapRange_any (w := wr) (v := .slice ao N cap) (N := N) (Rs := Rs) L U1 [] V1 R (by simpa using HS.out) (by rw [← Hlen.out]; simp) hN2 (by rw [← Hi.out, ← Hj.out]) q m i (by rw [Hq.out, Hml.out]; omega) (by rw [Hml.out, Hi.out]; simp) Hi.out fv)
      go_wp2_with (go_at_call 93; refine Hsw.out.mono ?_; rintro e' w3 ⟨rfl, hS3⟩; have HS3 := Lib.hid hS3; clear hS3 Hsw)
      go_end0
      have h := HS3.out
      rw [List.append_nil, Hfin.out] at h
      exact ⟨rfl, h⟩
    · have hdI : ((i : Int) != (j : Int)) = true := bne_iff_ne.2 (by omega)
      by_cases hlt : j < i
      · have hd2 : decide ((j : Int) < (i : Int)) = true := decide_eq_true (by omega)
        obtain ⟨q, Hq⟩ : ∃ q, Hid (q = m - i) := ⟨_, Lib.hid rfl⟩
        have hqI : (m : Int) - (i : Int) = (q : Int) := by rw [Hq.out]; omega
        obtain ⟨i2, Hi2⟩ : ∃ i2, Hid (i2 = i - j) := ⟨_, Lib.hid rfl⟩
        have hi2I : (i : Int) - (j : Int) = (i2 : Int) := by rw [Hi2.out]; omega
        have hsplit : U1 = U1.take j ++ U1.drop j := (List.take_append_drop _ _).symm
        have hjl : j ≤ U1.length := by rw [← Hi.out]; omega
        have Hsw := Lib.hid (swapRange_any (w := wr) (v := .slice ao N cap) (N := N) (Rs := Rs) L (U1.take j) (U1.drop j) V1 R (by simpa [List.append_assoc] using HS.out) (by rw [← Hlen.out]; simp) hN2 (by rw [List.length_take, ← Hj.out]; omega) q m j (by rw [Hq.out, Hml.out]; omega) (by rw [Hml.out, Hi.out]; simp; omega) (by rw [List.length_take]; omega) fv)
        clear hsplit
        go_wp2_with (go_at_call 93; refine Hsw.out.mono ?_; rintro e' w3 ⟨rfl, hS3⟩; have HS3 := Lib.hid hS3; clear hS3 Hsw)
        refine ⟨⟨L ++ V1, U1.drop j, U1.take j, R, i2, j, by rw [Hi2.out]; omega, hjp, by unfold Hid; rw [Hi2.out, List.length_drop, ← Hi.out], by unfold Hid; rw [List.length_take]; omega, by unfold Hid; rw [Hml.out, Hi2.out, List.length_append, ← Hj.out]; omega, ?_, rfl, rfl, ?_⟩, by simp [intOf]; have := Hi2.out; omega⟩
        · unfold Hid; rw [← Hfin.out]; simp
        · have h := HS3.out; simpa [List.append_assoc, Hid] using h
      · have hd2 : decide ((j : Int) < (i : Int)) = false := decide_eq_false (by omega)
        obtain ⟨q, Hq⟩ : ∃ q, Hid (q = m - i) := ⟨_, Lib.hid rfl⟩
        have hqI : (m : Int) - (i : Int) = (q : Int) := by rw [Hq.out]; omega
        obtain ⟨r, Hr⟩ : ∃ r, Hid (r = m + j - i) := ⟨_, Lib.hid rfl⟩
        have hrI : (m : Int) + (j : Int) - (i : Int) = (r : Int) := by rw [Hr.out]; omega
        obtain ⟨j2, Hj2⟩ : ∃ j2, Hid (j2 = j - i) := ⟨_, Lib.hid rfl⟩
        have hj2I : (j : Int) - (i : Int) = (j2 : Int) := by rw [Hj2.out]; omega
        have hjl : i ≤ V1.length := by rw [← Hj.out]; omega
        have Hsw := Lib.hid (swapRange_any (w := wr) (v := .slice ao N cap) (N := N) (Rs := Rs) L U1 (V1.take (j - i)) (V1.drop (j - i)) R (by have h := HS.out; rw [← List.take_append_drop (j - i) V1] at h; simpa [List.append_assoc] using h) (by rw [← Hlen.out]; simp) hN2 (by rw [List.length_drop, ← Hj.out, ← Hi.out]; omega) q r i (by rw [Hq.out, Hml.out]; omega) (by have e1 := Hj.out; have e2 := Hi.out; have e3 := Hr.out; have e4 := Hml.out; rw [List.length_take]; omega) Hi.out fv)
        go_wp2_with (go_at_call 93; refine Hsw.out.mono ?_; rintro e' w3 ⟨rfl, hS3⟩; have HS3 := Lib.hid hS3; clear hS3 Hsw)
        refine ⟨⟨L, V1.drop (j - i), V1.take (j - i), U1 ++ R, i, j2, hip, by rw [Hj2.out]; omega, by unfold Hid; rw [List.length_drop, ← Hj.out]; omega, by unfold Hid; have e1 := Hj.out; rw [Hj2.out, List.length_take]; omega, Hml.out, ?_, rfl, rfl, ?_⟩, by simp [intOf]; have := Hj2.out; omega⟩
        · unfold Hid; rw [← Hfin.out, ← List.append_assoc, List.append_assoc L, List.take_append_drop]
        · have h := HS3.out; simpa [List.append_assoc, Hid] using h

end Go.Proofs.Ytobkmkdnkdbgeaa
