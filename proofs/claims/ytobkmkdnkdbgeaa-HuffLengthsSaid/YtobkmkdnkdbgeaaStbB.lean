/- slices.SortStableFunc at huff's parcels: symMerge where one side is a single parcel. -/
import Derived.Test.YtobkmkdnkdbgeaaStbA
namespace Go.Proofs.Ytobkmkdnkdbgeaa
open Go.RowKit Go.Hal
set_option linter.unusedVariables false
set_option linter.unusedSimpArgs false

/-- A function that compares parcels by what they cost. -/
structure CmpOk (c : Nat) : Prop where
  fn : ∀ args w, Sem.run Try.prog (callFunc c args) w = .ok (.enter c args) w
  run : ∀ (p q : Par) (w : World), 0 ≤ p.cost → p.cost ≤ 1152921504606846976 → 0 ≤ q.cost → q.cost ≤ 1152921504606846976 →
    Calls Try.prog c #[.agg #[.int .i64 p.cost, p.w], .agg #[.int .i64 q.cost, q.w]] w fun e w' => e = .returned (.int .i64 (p.cost - q.cost)) ∧ Mods (fun _ => False) w w'

theorem at_mid (pre suf L : List Par) (x : Par) (k : Nat) (hk : k < L.length) : (pre ++ x :: (L ++ suf))[pre.length + 1 + k]? = L[k]? := by
  rw [List.getElem?_append_right (by omega), show pre.length + 1 + k - pre.length = k + 1 by omega, List.getElem?_cons_succ, List.getElem?_append_left hk]
theorem cost_mono {l : List (Par × Nat)} (hl : l.Pairwise (PLt Par.cost)) {i j : Nat} {x y : Par × Nat} (hij : i ≤ j) (hx : l[i]? = some x) (hy : l[j]? = some y) : x.1.cost ≤ y.1.cost := by
  rcases Nat.lt_or_ge i j with h | h
  · have hj := (List.getElem?_eq_some_iff.1 hy)
    have hi := (List.getElem?_eq_some_iff.1 hx)
    have := List.pairwise_iff_getElem.1 hl i j hi.1 hj.1 h
    rw [hi.2, hj.2] at this
    unfold PLt at this; omega
  · obtain rfl : i = j := by omega
    rw [hx] at hy; cases hy; omega

set_option maxRecDepth 100000 in
set_option maxHeartbeats 4000000 in
theorem sym_left {c : Nat} (hc : CmpOk c) {w : World} {v : Value} {N : Nat} {Rs : List Res} (pre suf : List Par) (x : Par × Nat) (B : List (Par × Nat)) (hS : Sat w (parS N v (pre ++ x.1 :: (B.map Prod.fst ++ suf)) :: Rs)) (hN2 : N ≤ 1048576)
    (hB : B.Pairwise (PLt Par.cost)) (hco : ∀ p ∈ pre ++ x.1 :: (B.map Prod.fst ++ suf), 0 ≤ p.cost ∧ p.cost ≤ 1152921504606846976) (a m b : Nat) (ha : a = pre.length) (hm : m = a + 1) (hb : b = m + B.length) :
    Calls Try.prog 90 #[v, .int .i64 a, .int .i64 m, .int .i64 b, .func (.func c) #[] #[]] w fun e w' => e = .returned (.tuple #[]) ∧ ∃ i, i ≤ B.length ∧ (∀ k y, k < i → B[k]? = some y → y.1.cost < x.1.cost) ∧ (∀ k y, i ≤ k → B[k]? = some y → x.1.cost ≤ y.1.cost) ∧
      Sat w' (parS N v (pre ++ (B.take i).map Prod.fst ++ x.1 :: ((B.drop i).map Prod.fst ++ suf)) :: Rs) := by
  obtain ⟨F, ao, cap, rfl, -, -, -, -⟩ := hS.first
  have hlen : (pre ++ x.1 :: (B.map Prod.fst ++ suf)).length = N := by have := hS.sl_read.len; rw [parC_length] at this; omega
  have hbN : b ≤ N := by rw [← hlen, hb, hm, ha]; simp; omega
  have hd1 : ((m : Int) - (a : Int) == 1) = true := by rw [beq_iff_eq]; omega
  have hx0 := hco x.1 (by simp)
  have HB := Lib.hid hB
  have Hco := Lib.hid hco
  have Ha := Lib.hid ha
  have Hb := Lib.hid hb
  have Hm := Lib.hid hm
  have Hlen := Lib.hid hlen
  have ham : a + 1 ≤ m := by omega
  have hmb : m ≤ b := by omega
  have hfn := hc.fn
  have HC := Lib.hid hc.run
  clear hc hB hco ha hb hm hlen
  go_enter Try.func90, Try.ntmps90
  go_wp2
  go_loopw [10, 11] (fun iv jv wr => ∃ i j : Nat, m ≤ i ∧ i ≤ j ∧ j ≤ b ∧ iv = .int .i64 i ∧ jv = .int .i64 j ∧ Hid (∀ k y, k + m < i → B[k]? = some y → y.1.cost < x.1.cost) ∧ Hid (∀ k y, j ≤ k + m → B[k]? = some y → x.1.cost ≤ y.1.cost) ∧
    Hid (Sat wr (parS N (.slice ao N cap) (pre ++ x.1 :: (B.map Prod.fst ++ suf)) :: Rs))) (fun iv jv _ => (intOf jv - intOf iv).toNat)
  case atStart => exact ⟨m, b, by omega, hmb, by omega, rfl, rfl, fun k y h => by omega, fun k y h hk => by have := (List.getElem?_eq_some_iff.1 hk).1; have := Hb.out; omega, hS⟩
  case round =>
    obtain ⟨i, j, hmi, hij, hjb, rfl, rfl, Hlo, Hhi, HS⟩ := hrel
    clear hS
    by_cases hlt : i < j
    · have hd : decide ((i : Int) < (j : Int)) = true := decide_eq_true (by omega)
      obtain ⟨h, Hh⟩ : ∃ h, Hid (h = (i + j) / 2) := ⟨_, Lib.hid rfl⟩
      have hhI : ((i : Int) + (j : Int)) / 2 = (h : Int) := by rw [Hh.out]; omega
      have hih : i ≤ h := by rw [Hh.out]; omega
      have hhj : h < j := by rw [Hh.out]; omega
      have hkB : h - m < B.length := by have := Hb.out; omega
      obtain ⟨y, hy⟩ : ∃ y, B[h - m]? = some y := ⟨_, List.getElem?_eq_getElem hkB⟩
      have hyL : (pre ++ x.1 :: (B.map Prod.fst ++ suf))[h]? = some y.1 := by
        have e : h = pre.length + 1 + (h - m) := by have := Ha.out; have := Hm.out; omega
        rw [e, at_mid _ _ _ _ _ (by simpa using hkB), List.getElem?_map]
        have e2 : pre.length + 1 + (h - m) - m = h - m := by omega
        rw [hy]; rfl
      have hxL : (pre ++ x.1 :: (B.map Prod.fst ++ suf))[a]? = some x.1 := by rw [Ha.out]; simp
      have hy0 := Hco.out y.1 (List.mem_of_getElem? hyL)
      obtain ⟨b0, off, cap', heq, hb0, hff, hcc⟩ := par_cells HS.out (by omega)
      simp only [Value.slice.injEq, true_and] at heq
      obtain ⟨rfl, rfl⟩ := heq
      obtain ⟨c1, c2⟩ := hcc _ _ hyL
      obtain ⟨c3, c4⟩ := hcc _ _ hxL
      have hw1 : IntKind.i64.wrap (h : Int) = h := i64_id _ (by omega) (by omega)
      have hw2 : IntKind.i64.wrap (a : Int) = a := i64_id _ (by omega) (by omega)
      have hz1 : (0 : Int) ≤ (h : Int) := by omega
      have hz2 : (h : Int) < (N : Int) := by omega
      have hz3 : (0 : Int) ≤ (a : Int) := by omega
      have hz4 : (a : Int) < (N : Int) := by omega
      have hw3 : IntKind.i64.wrap (y.1.cost - x.1.cost) = y.1.cost - x.1.cost := i64_id _ (by omega) (by omega)
      have Hcall := Lib.hid (fun W => HC.out y.1 x.1 W hy0.1 hy0.2 hx0.1 hx0.2)
      have Hy := Lib.hid hy
      clear hcc hff hyL hxL hy hy0
      go_wp2_with fail
      go_region_held3 (fun w' => w'.cell? ⟨b0, off + h * 2, none⟩ = some (.int .i64 y.1.cost) ∧ w'.cell? ⟨b0, off + h * 2 + 1, none⟩ = some y.1.w ∧ w'.cell? ⟨b0, off + a * 2, none⟩ = some (.int .i64 x.1.cost) ∧ w'.cell? ⟨b0, off + a * 2 + 1, none⟩ = some x.1.w)
        (first | go_keep | exact ⟨(hM.cell hb0).trans c1, (hM.cell hb0).trans c2, (hM.cell hb0).trans c3, (hM.cell hb0).trans c4⟩) (((with_reducible refine (Hcall.out _).mono ?_); rintro e w1 ⟨rfl, hM⟩))
      have HS3 := Lib.hid (HS.out.drew.keep hM)
      clear hM c1 c2 c3 c4 HS Hcall
      by_cases hlt2 : y.1.cost < x.1.cost
      · have hd2 : decide (y.1.cost - x.1.cost < 0) = true := decide_eq_true (by omega)
        go_wp2
        refine ⟨⟨h + 1, j, by omega, by omega, hjb, by go_num, rfl, fun k z hk hz => ?_, Hhi.out, HS3.out⟩, by simp [intOf]; omega⟩
        have := cost_mono HB.out (show k ≤ h - m by omega) hz Hy.out
        omega
      · have hd2 : decide (y.1.cost - x.1.cost < 0) = false := decide_eq_false (by omega)
        go_wp2
        refine ⟨⟨i, h, hmi, hih, by omega, rfl, rfl, Hlo.out, fun k z hk hz => ?_, HS3.out⟩, by simp [intOf]; omega⟩
        have := cost_mono HB.out (show h - m ≤ k by omega) Hy.out hz
        omega
    · have hd : decide ((i : Int) < (j : Int)) = false := decide_eq_false (by omega)
      obtain ⟨n, Hn⟩ : ∃ n, Hid (i = m + n) := ⟨i - m, by unfold Hid; omega⟩
      have hnB : n ≤ B.length := by have := Hn.out; have := Hb.out; omega
      have hi1 : (i : Int) - 1 = ((a + n : Nat) : Int) := by have := Hn.out; have := Hm.out; omega
      have HloN : Hid (∀ k y, k < n → B[k]? = some y → y.1.cost < x.1.cost) := fun k y hk => Hlo.out k y (by have := Hn.out; omega)
      have HhiN : Hid (∀ k y, n ≤ k → B[k]? = some y → x.1.cost ≤ y.1.cost) := fun k y hk => Hhi.out k y (by have := Hn.out; omega)
      obtain ⟨an, Han⟩ : ∃ an, Hid (an = a + n) := ⟨_, Lib.hid rfl⟩
      rw [← Han.out] at hi1
      have hanN : an + 1 ≤ N := by have := Han.out; have := Hn.out; have := Hm.out; omega
      clear Hlo Hhi
      go_wp2
      go_loopw [13] (fun kv wr => ∃ k : Nat, k ≤ n ∧ kv = .int .i64 ((a + k : Nat) : Int) ∧ Hid (Sat wr (parS N (.slice ao N cap) (pre ++ (B.take k).map Prod.fst ++ x.1 :: ((B.drop k).map Prod.fst ++ suf)) :: Rs))) (fun kv _ => (an - intOf kv).toNat)
      case atStart => exact ⟨0, by omega, by simp, by unfold Hid; simpa using HS.out⟩
      case round =>
        obtain ⟨k, hk, rfl, HS4⟩ := hrel
        clear HS
        obtain ⟨p, Hp⟩ : ∃ p, Hid (p = a + k) := ⟨_, Lib.hid rfl⟩
        rw [← Hp.out]
        by_cases hkn : k < n
        · have hpa : p < an := by rw [Hp.out, Han.out]; omega
          have hd5 : decide ((p : Int) < (an : Int)) = true := decide_eq_true (by omega)
          have hkB : k < B.length := by omega
          obtain ⟨y, hy⟩ : ∃ y, B[k] = y := ⟨_, rfl⟩
          have eB : B.drop k = y :: B.drop (k + 1) := by rw [List.drop_eq_getElem_cons hkB, hy]
          have tB : B.take (k + 1) = B.take k ++ [y] := by rw [List.take_succ_eq_append_getElem hkB, hy]
          obtain ⟨A1, HA1⟩ : ∃ A1, Hid (pre ++ (B.take k).map Prod.fst = A1) := ⟨_, Lib.hid rfl⟩
          obtain ⟨C1, HC1⟩ : ∃ C1, Hid ((B.drop (k + 1)).map Prod.fst ++ suf = C1) := ⟨_, Lib.hid rfl⟩
          have hAl : A1.length = p := by rw [← HA1.out, Hp.out, Ha.out]; simp; omega
          have hcat : pre ++ (B.take k).map Prod.fst ++ x.1 :: ((B.drop k).map Prod.fst ++ suf) = A1 ++ x.1 :: ([] ++ y.1 :: C1) := by rw [eB, ← HA1.out, ← HC1.out]; simp
          have hnext : A1 ++ y.1 :: ([] ++ x.1 :: C1) = pre ++ (B.take (k + 1)).map Prod.fst ++ x.1 :: ((B.drop (k + 1)).map Prod.fst ++ suf) := by rw [tB, ← HA1.out, ← HC1.out]; simp
          have hS1 := HS4.out
          rw [hcat] at hS1
          have hlen : (A1 ++ x.1 :: ([] ++ y.1 :: C1)).length = N := by have := hS1.sl_read.len; rw [parC_length] at this; omega
          obtain ⟨b0, off, cap', heq, hb0, hff, hcc⟩ := par_cells hS1 (by omega)
          simp only [Value.slice.injEq, true_and] at heq
          obtain ⟨rfl, rfl⟩ := heq
          have hm9 := mid_at A1 [] C1 x.1 y.1
          rw [List.length_nil, Nat.add_zero, hAl] at hm9
          obtain ⟨c1, c2⟩ := hcc _ _ hm9.1
          obtain ⟨c3, c4⟩ := hcc _ _ hm9.2
          have f1 := hff (p * 2)
          have f2 := hff (p * 2 + 1)
          have f3 := hff ((p + 1) * 2)
          have f4 := hff ((p + 1) * 2 + 1)
          rw [← Nat.add_assoc] at f2 f4
          have hw1 : IntKind.i64.wrap (p : Int) = p := i64_id _ (by omega) (by omega)
          have hw2 : IntKind.i64.wrap ((p : Int) + 1) = p + 1 := i64_id _ (by omega) (by omega)
          have hz1 : (0 : Int) ≤ (p : Int) := by omega
          have hz2 : (p : Int) < (N : Int) := by omega
          have hz3 : (0 : Int) ≤ (p : Int) + 1 := by omega
          have hz4 : (p : Int) + 1 < (N : Int) := by omega
          have Hsw := Lib.hid (fun W (h : Sat W (parS N (.slice (some ⟨b0, off, none⟩) N cap) (A1 ++ x.1 :: ([] ++ y.1 :: C1)) :: Rs)) => par_swap h hlen p (p + 1) x.1 y.1 (by omega) (by omega))
          have hsm := swap_mid A1 [] C1 x.1 y.1
          rw [List.length_nil, Nat.add_zero, hAl] at hsm
          rw [hsm, hnext] at Hsw
          have HS1 := Lib.hid hS1
          have Hlt : Hid (k < n) := hkn
          clear hm9 hcc hff hcat hnext hsm hlen hAl tB eB hy HA1 HC1 HS4 hS1
          go_wp2_with fail
          go_region
          have HF := Lib.hid (Hsw.out _ HS1.out).drew
          clear c1 c2 c3 c4 f1 f2 f3 f4 Hsw HS1
          go_wp2
          exact ⟨⟨k + 1, Hlt.out, vi (by rw [Hp.out]; omega), HF.out⟩, by simp [intOf]; have := Hp.out; omega⟩
        · have hd5 : decide ((p : Int) < (an : Int)) = false := decide_eq_false (by rw [Hp.out, Han.out]; omega)
          have hd6 : decide (p < an) = false := decide_eq_false (by rw [Hp.out, Han.out]; omega)
          obtain rfl : k = n := by omega
          go_wp2
          ((try simp only [Exit.inBlock, Exit.then]); refine bodyPost_ret (results_none rfl _ _ _) rfl ?_)
          exact ⟨rfl, k, hnB, HloN.out, HhiN.out, HS4.out⟩

set_option maxRecDepth 100000 in
set_option maxHeartbeats 4000000 in
theorem sym_right {c : Nat} (hc : CmpOk c) {w : World} {v : Value} {N : Nat} {Rs : List Res} (pre suf : List Par) (x : Par × Nat) (A : List (Par × Nat)) (hS : Sat w (parS N v (pre ++ A.map Prod.fst ++ x.1 :: suf) :: Rs)) (hN2 : N ≤ 1048576)
    (hA : A.Pairwise (PLt Par.cost)) (hco : ∀ p ∈ pre ++ A.map Prod.fst ++ x.1 :: suf, 0 ≤ p.cost ∧ p.cost ≤ 1152921504606846976) (a m b : Nat) (ha : a = pre.length) (hm : m = a + A.length) (hb : b = m + 1) (hA1 : 1 < A.length) :
    Calls Try.prog 90 #[v, .int .i64 a, .int .i64 m, .int .i64 b, .func (.func c) #[] #[]] w fun e w' => e = .returned (.tuple #[]) ∧ ∃ i, i ≤ A.length ∧ (∀ k y, k < i → A[k]? = some y → y.1.cost ≤ x.1.cost) ∧ (∀ k y, i ≤ k → A[k]? = some y → x.1.cost < y.1.cost) ∧
      Sat w' (parS N v (pre ++ (A.take i).map Prod.fst ++ x.1 :: ((A.drop i).map Prod.fst ++ suf)) :: Rs) := by
  obtain ⟨F, ao, cap, rfl, -, -, -, -⟩ := hS.first
  have hlen : (pre ++ A.map Prod.fst ++ x.1 :: suf).length = N := by have := hS.sl_read.len; rw [parC_length] at this; omega
  have hbN : b ≤ N := by rw [← hlen, hb, hm, ha]; simp; omega
  have hd1 : ((m : Int) - (a : Int) == 1) = false := beq_eq_false_iff_ne.2 (by omega)
  have hd2 : ((b : Int) - (m : Int) == 1) = true := by rw [beq_iff_eq]; omega
  have hx0 := hco x.1 (by simp)
  have HA := Lib.hid hA
  have Hco := Lib.hid hco
  have Ha := Lib.hid ha
  have Hb := Lib.hid hb
  have Hm := Lib.hid hm
  have Hlen := Lib.hid hlen
  have ham : a ≤ m := by omega
  have hmb : m + 1 ≤ b := by omega
  have hfn := hc.fn
  have HC := Lib.hid hc.run
  clear hc hA hco ha hb hm hlen hA1
  go_enter Try.func90, Try.ntmps90
  go_wp2
  go_loopw [14, 15] (fun iv jv wr => ∃ i j : Nat, a ≤ i ∧ i ≤ j ∧ j ≤ m ∧ iv = .int .i64 i ∧ jv = .int .i64 j ∧ Hid (∀ k y, k + a < i → A[k]? = some y → y.1.cost ≤ x.1.cost) ∧ Hid (∀ k y, j ≤ k + a → A[k]? = some y → x.1.cost < y.1.cost) ∧
    Hid (Sat wr (parS N (.slice ao N cap) (pre ++ A.map Prod.fst ++ x.1 :: suf) :: Rs))) (fun iv jv _ => (intOf jv - intOf iv).toNat)
  case atStart => exact ⟨a, m, by omega, ham, by omega, rfl, rfl, fun k y h => by omega, fun k y h hk => by have := (List.getElem?_eq_some_iff.1 hk).1; have := Hm.out; omega, hS⟩
  case round =>
    obtain ⟨i, j, hmi, hij, hjb, rfl, rfl, Hlo, Hhi, HS⟩ := hrel
    clear hS
    by_cases hlt : i < j
    · have hd : decide ((i : Int) < (j : Int)) = true := decide_eq_true (by omega)
      obtain ⟨h, Hh⟩ : ∃ h, Hid (h = (i + j) / 2) := ⟨_, Lib.hid rfl⟩
      have hhI : ((i : Int) + (j : Int)) / 2 = (h : Int) := by rw [Hh.out]; omega
      have hih : i ≤ h := by rw [Hh.out]; omega
      have hhj : h < j := by rw [Hh.out]; omega
      have hkA : h - a < A.length := by have := Hm.out; omega
      obtain ⟨y, hy⟩ : ∃ y, A[h - a]? = some y := ⟨_, List.getElem?_eq_getElem hkA⟩
      have hyL : (pre ++ A.map Prod.fst ++ x.1 :: suf)[h]? = some y.1 := by
        rw [List.append_assoc, List.getElem?_append_right (by rw [← Ha.out]; omega), ← Ha.out, List.getElem?_append_left (by simpa using hkA), List.getElem?_map, hy]; rfl
      have hxL : (pre ++ A.map Prod.fst ++ x.1 :: suf)[m]? = some x.1 := by rw [Hm.out, Ha.out, List.getElem?_append_right (by simp)]; simp
      have hy0 := Hco.out y.1 (List.mem_of_getElem? hyL)
      obtain ⟨b0, off, cap', heq, hb0, hff, hcc⟩ := par_cells HS.out (by omega)
      simp only [Value.slice.injEq, true_and] at heq
      obtain ⟨rfl, rfl⟩ := heq
      obtain ⟨c1, c2⟩ := hcc _ _ hyL
      obtain ⟨c3, c4⟩ := hcc _ _ hxL
      have hw1 : IntKind.i64.wrap (h : Int) = h := i64_id _ (by omega) (by omega)
      have hw2 : IntKind.i64.wrap (m : Int) = m := i64_id _ (by omega) (by omega)
      have hz1 : (0 : Int) ≤ (h : Int) := by omega
      have hz2 : (h : Int) < (N : Int) := by omega
      have hz3 : (0 : Int) ≤ (m : Int) := by omega
      have hz4 : (m : Int) < (N : Int) := by omega
      have hw3 : IntKind.i64.wrap (x.1.cost - y.1.cost) = x.1.cost - y.1.cost := i64_id _ (by omega) (by omega)
      have Hcall := Lib.hid (fun W => HC.out x.1 y.1 W hx0.1 hx0.2 hy0.1 hy0.2)
      have Hy := Lib.hid hy
      clear hcc hff hyL hxL hy hy0
      by_cases hlt2 : x.1.cost < y.1.cost
      · have hd3 : decide (x.1.cost - y.1.cost < 0) = true := decide_eq_true (by omega)
        have hd4 : decide (0 ≤ x.1.cost - y.1.cost) = false := decide_eq_false (by omega)
        have hd5 : decide (y.1.cost ≤ x.1.cost) = false := decide_eq_false (by omega)
        go_wp2_with fail
        go_region_held3 (fun w' => w'.cell? ⟨b0, off + h * 2, none⟩ = some (.int .i64 y.1.cost) ∧ w'.cell? ⟨b0, off + h * 2 + 1, none⟩ = some y.1.w ∧ w'.cell? ⟨b0, off + m * 2, none⟩ = some (.int .i64 x.1.cost) ∧ w'.cell? ⟨b0, off + m * 2 + 1, none⟩ = some x.1.w)
          (first | go_keep | exact ⟨(hM.cell hb0).trans c1, (hM.cell hb0).trans c2, (hM.cell hb0).trans c3, (hM.cell hb0).trans c4⟩) (((with_reducible refine (Hcall.out _).mono ?_); rintro e w1 ⟨rfl, hM⟩))
        have HS3 := Lib.hid (HS.out.drew.keep hM)
        clear hM c1 c2 c3 c4 HS Hcall
        go_wp2
        refine ⟨⟨i, h, hmi, hih, by omega, rfl, rfl, Hlo.out, fun k z hk hz => ?_, HS3.out⟩, by simp [intOf]; omega⟩
        have := cost_mono HA.out (show h - a ≤ k by omega) Hy.out hz
        omega
      · have hd3 : decide (x.1.cost - y.1.cost < 0) = false := decide_eq_false (by omega)
        have hd4 : decide (0 ≤ x.1.cost - y.1.cost) = true := decide_eq_true (by omega)
        have hd5 : decide (y.1.cost ≤ x.1.cost) = true := decide_eq_true (by omega)
        go_wp2_with fail
        go_region_held3 (fun w' => w'.cell? ⟨b0, off + h * 2, none⟩ = some (.int .i64 y.1.cost) ∧ w'.cell? ⟨b0, off + h * 2 + 1, none⟩ = some y.1.w ∧ w'.cell? ⟨b0, off + m * 2, none⟩ = some (.int .i64 x.1.cost) ∧ w'.cell? ⟨b0, off + m * 2 + 1, none⟩ = some x.1.w)
          (first | go_keep | exact ⟨(hM.cell hb0).trans c1, (hM.cell hb0).trans c2, (hM.cell hb0).trans c3, (hM.cell hb0).trans c4⟩) (((with_reducible refine (Hcall.out _).mono ?_); rintro e w1 ⟨rfl, hM⟩))
        have HS3 := Lib.hid (HS.out.drew.keep hM)
        clear hM c1 c2 c3 c4 HS Hcall
        go_wp2
        refine ⟨⟨h + 1, j, by omega, by omega, hjb, by go_num, rfl, fun k z hk hz => ?_, Hhi.out, HS3.out⟩, by simp [intOf]; omega⟩
        have := cost_mono HA.out (show k ≤ h - a by omega) hz Hy.out
        omega
    · have hd : decide ((i : Int) < (j : Int)) = false := decide_eq_false (by omega)
      obtain ⟨n, Hn⟩ : ∃ n, Hid (i = a + n) := ⟨i - a, by unfold Hid; omega⟩
      have hnA : n ≤ A.length := by have := Hn.out; have := Hm.out; omega
      have HloN : Hid (∀ k y, k < n → A[k]? = some y → y.1.cost ≤ x.1.cost) := fun k y hk => Hlo.out k y (by have := Hn.out; omega)
      have HhiN : Hid (∀ k y, n ≤ k → A[k]? = some y → x.1.cost < y.1.cost) := fun k y hk => Hhi.out k y (by have := Hn.out; omega)
      clear Hlo Hhi
      go_wp2
      go_loopw [17] (fun kv wr => ∃ k : Nat, n ≤ k ∧ k ≤ A.length ∧ kv = .int .i64 ((a + k : Nat) : Int) ∧ Hid (Sat wr (parS N (.slice ao N cap) (pre ++ (A.take k).map Prod.fst ++ x.1 :: ((A.drop k).map Prod.fst ++ suf)) :: Rs))) (fun kv _ => (intOf kv).toNat)
      case atStart => exact ⟨A.length, hnA, Nat.le_refl _, by rw [Hm.out], by unfold Hid; simpa using HS.out⟩
      case round =>
        obtain ⟨k, hnk, hk, rfl, HS4⟩ := hrel
        clear HS
        by_cases hkn : n < k
        · obtain ⟨q, rfl⟩ : ∃ q, k = q + 1 := ⟨k - 1, by omega⟩
          obtain ⟨p, Hp⟩ : ∃ p, Hid (p = a + q) := ⟨_, Lib.hid rfl⟩
          rw [show ((a + (q + 1) : Nat) : Int) = ((p + 1 : Nat) : Int) by rw [Hp.out]; rfl]
          have hpi : i < p + 1 := by have := Hp.out; have := Hn.out; omega
          have hd5 : decide ((i : Int) < ((p + 1 : Nat) : Int)) = true := decide_eq_true (by omega)
          have hpN : p + 1 < N := by have := Hp.out; have := Hm.out; omega
          have hkA : q < A.length := by omega
          obtain ⟨y, hy⟩ : ∃ y, A[q] = y := ⟨_, rfl⟩
          have eA : A.drop q = y :: A.drop (q + 1) := by rw [List.drop_eq_getElem_cons hkA, hy]
          have tA : A.take (q + 1) = A.take q ++ [y] := by rw [List.take_succ_eq_append_getElem hkA, hy]
          obtain ⟨A1, HA1⟩ : ∃ A1, Hid (pre ++ (A.take q).map Prod.fst = A1) := ⟨_, Lib.hid rfl⟩
          obtain ⟨C1, HC1⟩ : ∃ C1, Hid ((A.drop (q + 1)).map Prod.fst ++ suf = C1) := ⟨_, Lib.hid rfl⟩
          have hAl : A1.length = p := by rw [← HA1.out, Hp.out, Ha.out]; simp; omega
          have hcat : pre ++ (A.take (q + 1)).map Prod.fst ++ x.1 :: ((A.drop (q + 1)).map Prod.fst ++ suf) = A1 ++ y.1 :: ([] ++ x.1 :: C1) := by rw [tA, ← HA1.out, ← HC1.out]; simp
          have hnext : A1 ++ x.1 :: ([] ++ y.1 :: C1) = pre ++ (A.take q).map Prod.fst ++ x.1 :: ((A.drop q).map Prod.fst ++ suf) := by rw [eA, ← HA1.out, ← HC1.out]; simp
          have hS1 := HS4.out
          rw [hcat] at hS1
          have hlen : (A1 ++ y.1 :: ([] ++ x.1 :: C1)).length = N := by have := hS1.sl_read.len; rw [parC_length] at this; omega
          obtain ⟨b0, off, cap', heq, hb0, hff, hcc⟩ := par_cells hS1 (by omega)
          simp only [Value.slice.injEq, true_and] at heq
          obtain ⟨rfl, rfl⟩ := heq
          have hm9 := mid_at A1 [] C1 y.1 x.1
          rw [List.length_nil, Nat.add_zero, hAl] at hm9
          obtain ⟨c1, c2⟩ := hcc _ _ hm9.1
          obtain ⟨c3, c4⟩ := hcc _ _ hm9.2
          have f1 := hff (p * 2)
          have f2 := hff (p * 2 + 1)
          have f3 := hff ((p + 1) * 2)
          have f4 := hff ((p + 1) * 2 + 1)
          rw [← Nat.add_assoc] at f2 f4
          have hw1 : IntKind.i64.wrap (p : Int) = p := i64_id _ (by omega) (by omega)
          have hw2 : IntKind.i64.wrap ((p : Int) + 1) = p + 1 := i64_id _ (by omega) (by omega)
          have hw3 : IntKind.i64.wrap ((p : Int) + 1 - 1) = p := i64_id _ (by omega) (by omega) |>.trans (by omega)
          have hz1 : (0 : Int) ≤ (p : Int) := by omega
          have hz2 : (p : Int) < (N : Int) := by omega
          have hz3 : (0 : Int) ≤ (p : Int) + 1 := by omega
          have hz4 : (p : Int) + 1 < (N : Int) := by omega
          have Hsw := Lib.hid (fun W (h : Sat W (parS N (.slice (some ⟨b0, off, none⟩) N cap) (A1 ++ y.1 :: ([] ++ x.1 :: C1)) :: Rs)) => par_swap h hlen (p + 1) p x.1 y.1 (by omega) (by omega))
          have hsm := swap_mid A1 [] C1 y.1 x.1
          rw [List.length_nil, Nat.add_zero, hAl] at hsm
          rw [List.set_comm _ _ (by omega), hsm, hnext] at Hsw
          have HS1 := Lib.hid hS1
          have Hlt : Hid (n ≤ q) := by unfold Hid; omega
          have hql : q ≤ A.length := by omega
          clear hm9 hcc hff hcat hnext hsm hlen hAl tA eA hy HA1 HC1 HS4 hS1
          go_wp2_with fail
          go_region
          have HF := Lib.hid (Hsw.out _ HS1.out).drew
          clear c1 c2 c3 c4 f1 f2 f3 f4 Hsw HS1
          go_wp2
          exact ⟨⟨q, Hlt.out, hql, vi (by have := Hp.out; omega), HF.out⟩, by simp [intOf]⟩
        · obtain rfl : k = n := by omega
          obtain ⟨p, Hp⟩ : ∃ p, Hid (p = a + k) := ⟨_, Lib.hid rfl⟩
          rw [← Hp.out]
          have hd5 : decide ((i : Int) < (p : Int)) = false := decide_eq_false (by have := Hn.out; have := Hp.out; omega)
          have hd6 : decide (i < p) = false := decide_eq_false (by have := Hn.out; have := Hp.out; omega)
          go_wp2
          ((try simp only [Exit.inBlock, Exit.then]); refine bodyPost_ret (results_none rfl _ _ _) rfl ?_)
          exact ⟨rfl, k, hnA, HloN.out, HhiN.out, HS4.out⟩

end Go.Proofs.Ytobkmkdnkdbgeaa
