/- slices.SortStableFunc at huff's parcels: however many. -/
import Derived.Test.YtobkmkdnkdbgeaaStbC
import Derived.Test.YtobkmkdnkdbgeaaSymP
import Derived.Test.YtobkmkdnkdbgeaaQe
namespace Go.Proofs.Ytobkmkdnkdbgeaa
open Go.RowKit Go.Hal
set_option linter.unusedVariables false
set_option linter.unusedSimpArgs false

theorem symMerge_any {c : Nat} (hc : CmpOk c) : ∀ t, SymOk c t
  | 0 => fun w v N Rs pre suf A B ht hA hB => by omega
  | t + 1 => fun w v N Rs pre suf A B ht hA hB hS hN2 pA pB hAB hco a m b ha hm hb => by
    by_cases hA1 : A.length = 1
    · obtain ⟨x, rfl⟩ := List.length_eq_one_iff.1 hA1
      refine (sym_left hc pre suf x B (by simpa [List.append_assoc] using hS) hN2 pB (by simpa [List.append_assoc] using hco) a m b ha (by simpa using hm) hb).mono ?_
      rintro e w' ⟨rfl, i, hi, h1, h2, h3⟩
      refine ⟨rfl, _, merge_left x B pB hAB i h1 (fun k y hk hy => by have := h2 k y hk hy; omega), ?_⟩
      simpa [List.append_assoc] using h3
    · by_cases hB1 : B.length = 1
      · obtain ⟨x, rfl⟩ := List.length_eq_one_iff.1 hB1
        refine (sym_right hc pre suf x A (by simpa [List.append_assoc] using hS) hN2 pA (by simpa [List.append_assoc] using hco) a m b ha hm (by simpa using hb) (by omega)).mono ?_
        rintro e w' ⟨rfl, i, hi, h1, h2, h3⟩
        refine ⟨rfl, _, merge_right x A pA hAB i (fun k y hk hy => by have := h1 k y hk hy; omega) h2, ?_⟩
        simpa [List.append_assoc] using h3
      · exact sym_both hc (symMerge_any hc t) pre suf A B ht (by omega) (by omega) hS hN2 pA pB hAB hco a m b ha hm hb

/-- A row in the order of its places is sorted as `sortP` says. -/
theorem sorted_seg : ∀ (n : Nat) (g : List (Par × Nat)), g.length = n → g.Pairwise (fun x y => x.2 < y.2) → ∃ R, SortOf Par.cost g R ∧ R.map Prod.fst = sortP (g.map Prod.fst)
  | 0, g, hn, _ => by
    rw [List.length_eq_zero_iff] at hn; subst hn
    exact ⟨[], SortOf.refl .nil, rfl⟩
  | n + 1, g, hn, hi => by
    rcases List.eq_nil_or_concat g with rfl | ⟨l, x, rfl⟩
    · simp at hn
    rw [List.concat_eq_append] at hn hi ⊢
    obtain ⟨p1, -, p3⟩ := List.pairwise_append.1 hi
    obtain ⟨R, hR, hm⟩ := sorted_seg n l (by simpa using hn) p1
    obtain ⟨l1, l2, hcat, h1, h2⟩ : ∃ l1 l2, R = l1 ++ l2 ∧ (∀ y ∈ l1, ¬ x.1.cost < y.1.cost) ∧ ∀ y ∈ l2, x.1.cost < y.1.cost := by
      have : ∀ R : List (Par × Nat), R.Pairwise (PLt Par.cost) → ∃ l1 l2, R = l1 ++ l2 ∧ (∀ y ∈ l1, ¬ x.1.cost < y.1.cost) ∧ ∀ y ∈ l2, x.1.cost < y.1.cost := by
        intro R
        induction R with
        | nil => exact fun _ => ⟨[], [], rfl, by simp, by simp⟩
        | cons z r ih =>
          intro hp
          obtain ⟨q1, q2⟩ := List.pairwise_cons.1 hp
          by_cases hz : x.1.cost < z.1.cost
          · refine ⟨[], z :: r, rfl, by simp, fun y hy => ?_⟩
            rcases List.mem_cons.1 hy with rfl | hy
            · exact hz
            · have := q1 y hy
              unfold PLt at this; omega
          · obtain ⟨l1, l2, rfl, h1, h2⟩ := ih q2
            refine ⟨z :: l1, l2, rfl, fun y hy => ?_, h2⟩
            rcases List.mem_cons.1 hy with rfl | hy
            · exact hz
            · exact h1 y hy
      exact this R hR.1
    have hA : Ahead R [x] := fun y hy z hz => by
      rw [List.mem_singleton] at hz; subst hz
      exact p3 y ((hR.mem y).1 hy) z (by simp)
    have hms := merge_right x R hR.1 hA l1.length (fun k y hk hy => by
      rw [hcat, List.getElem?_append_left hk] at hy
      exact h1 y (List.mem_of_getElem? hy)) (fun k y hk hy => by
      rw [hcat, List.getElem?_append_right hk] at hy
      exact h2 y (List.mem_of_getElem? hy))
    refine ⟨_, hms.trans (List.Perm.append_right _ hR.2), ?_⟩
    have e : sortP ((l ++ [x]).map Prod.fst) = insR x.1 (l1.map Prod.fst ++ l2.map Prod.fst) := by rw [List.map_append, List.map_cons, List.map_nil, sortP_snoc, ← hm, hcat, List.map_append]
    rw [e, insR_of]
    · rw [hcat, List.take_left, List.drop_left, List.map_append, List.map_cons]
    · intro y hy
      obtain ⟨z, hz, rfl⟩ := List.mem_map.1 hy
      exact h2 z hz
    · rcases List.eq_nil_or_concat l1 with rfl | ⟨l0, z, rfl⟩
      · exact .inl rfl
      · exact .inr ⟨l0.map Prod.fst, z.1, by simp, h1 z (by simp)⟩

/-- insertionSort with a comparing closure. -/
def InsOk (c : Nat) : Prop := ∀ (w : World) (v : Value) (N : Nat) (Rs : List Res) (pre seg suf : List Par), Sat w (parS N v (pre ++ seg ++ suf) :: Rs) → N = (pre ++ seg ++ suf).length → N ≤ 1048576 → (∀ p ∈ pre ++ seg ++ suf, 0 ≤ p.cost ∧ p.cost ≤ 1152921504606846976) → ∀ a b : Nat, a = pre.length → b = pre.length + seg.length →
  Calls Try.prog 89 #[v, .int .i64 a, .int .i64 b, .func (.func c) #[] #[]] w fun e w' => e = .returned (.tuple #[]) ∧ Sat w' (parS N v (pre ++ sortP seg ++ suf) :: Rs)

abbrev Okc (p : Par) : Prop := 0 ≤ p.cost ∧ p.cost ≤ 1152921504606846976
theorem okc_perm {q0 L : List (Par × Nat)} (h : ∀ x ∈ q0, Okc x.1) (hp : L.Perm q0) : ∀ p ∈ L.map Prod.fst, Okc p := by
  intro p hp2
  obtain ⟨x, hx, rfl⟩ := List.mem_map.1 hp2
  exact h x (hp.mem_iff.1 hx)

/-- Behind the insertions: sorted parts of 20, and the rest. -/
structure InsS (q0 : List (Par × Nat)) (D : List (List (Par × Nat))) (rest : List (Par × Nat)) : Prop where
  perm : (D.flatten ++ rest).Perm q0
  ahead : (D ++ [rest]).Pairwise Ahead
  inc : rest.Pairwise (fun x y => x.2 < y.2)
  sorted : ∀ C ∈ D, C.Pairwise (PLt Par.cost)
  size : ∀ C ∈ D, C.length = 20
theorem InsS.next {q0 : List (Par × Nat)} {D : List (List (Par × Nat))} {rest R : List (Par × Nat)} (h : InsS q0 D rest) (hR : SortOf Par.cost (rest.take 20) R) (hl : 20 ≤ rest.length) : InsS q0 (D ++ [R]) (rest.drop 20) := by
  obtain ⟨h1, h2, h3⟩ := parts_next 20 h.perm h.ahead h.inc hR
  refine ⟨h1, h2, h3, fun C hC => ?_, fun C hC => ?_⟩
  · rcases List.mem_append.1 hC with hC | hC
    · exact h.sorted C hC
    · rw [List.mem_singleton] at hC; subst hC; exact hR.1
  · rcases List.mem_append.1 hC with hC | hC
    · exact h.size C hC
    · rw [List.mem_singleton] at hC; subst hC
      rw [hR.length, List.length_take]; omega
theorem InsS.last {q0 : List (Par × Nat)} {D : List (List (Par × Nat))} {rest R : List (Par × Nat)} (h : InsS q0 D rest) (hR : SortOf Par.cost rest R) (hl : rest.length < 20) :
    ∃ T, Parts Par.cost q0 T ∧ Szd 20 T ∧ T.flatten = D.flatten ++ R := by
  by_cases h0 : rest.length = 0
  · have hr0 : R.length = 0 := by rw [hR.length]; exact h0
    rw [List.length_eq_zero_iff] at h0 hr0
    subst h0 hr0
    refine ⟨D, ⟨by simpa using h.perm, (List.pairwise_append.1 h.ahead).1, h.sorted⟩, ?_, by simp⟩
    have := szd_app (α := Par) (s := 20) (by omega) (T := []) trivial D h.size
    simpa using this
  · have hR2 : SortOf Par.cost (rest.take rest.length) R := by rw [List.take_length]; exact hR
    obtain ⟨h1, h2, -⟩ := parts_next rest.length h.perm h.ahead h.inc hR2
    rw [List.drop_length, List.append_nil] at h1
    refine ⟨D ++ [R], ⟨h1, (List.pairwise_append.1 h2).1, fun C hC => ?_⟩, szd_app (by omega) (show Szd 20 [R] from Or.inl ⟨rfl, by rw [hR.length]; omega, by rw [hR.length]; omega⟩) D h.size, by simp⟩
    rcases List.mem_append.1 hC with hC | hC
    · exact h.sorted C hC
    · rw [List.mem_singleton] at hC; subst hC; exact hR.1

theorem flat_len {D : List (List (Par × Nat))} {k : Nat} (h : ∀ C ∈ D, C.length = k) : D.flatten.length = D.length * k := by
  induction D with
  | nil => simp
  | cons C D ih =>
    rw [List.flatten_cons, List.length_append, h C (by simp), ih (fun X hX => h X (by simp [hX])), List.length_cons, Nat.add_mul]; omega

set_option maxRecDepth 100000 in
set_option maxHeartbeats 8000000 in
theorem stable_walk {c : Nat} (hc : CmpOk c) (hi : InsOk c) {w : World} {v : Value} {n : Nat} {Rs : List Res} (q0 : List (Par × Nat)) (hS : Sat w (parS n v (q0.map Prod.fst) :: Rs)) (hn : q0.length = n) (hN : n ≤ 1048576) (hco : ∀ x ∈ q0, Okc x.1) (hq : q0.Pairwise (fun x y => x.2 < y.2)) :
    Calls Try.prog 77 #[v, .int .i64 n, .func (.func c) #[] #[]] w fun e w' => e = .returned (.tuple #[]) ∧ ∃ R, SortOf Par.cost q0 R ∧ Sat w' (parS n v (R.map Prod.fst) :: Rs) := by
  obtain ⟨F, ao, cap, rfl, -, -, -, -⟩ := hS.first
  have Hi := Lib.hid hi
  have Hsy := Lib.hid (symMerge_any hc)
  have Hco := Lib.hid hco
  have Hn := Lib.hid hn
  have hI0 : InsS q0 [] q0 := ⟨by simp, by simp, hq, by simp, by simp⟩
  have HI0 := Lib.hid hI0
  clear hc hi hco hn hq hI0
  go_enter Try.func77, Try.ntmps77
  go_wp2
  go_loopw [7, 8] (fun av bv wr => ∃ (D : List (List (Par × Nat))) (rest : List (Par × Nat)) (a : Nat), a ≤ n ∧ Hid (InsS q0 D rest) ∧ Hid (a = D.flatten.length) ∧ Hid (a + rest.length = n) ∧ av = .int .i64 a ∧ bv = .int .i64 ((a : Int) + 20) ∧
    Hid (Sat wr (parS n (.slice ao n cap) ((D.flatten ++ rest).map Prod.fst) :: Rs))) (fun av _ _ => n - (intOf av).toNat)
  case atStart => exact ⟨[], q0, 0, by omega, HI0.out, rfl, by unfold Hid; rw [Hn.out]; omega, rfl, rfl, by simpa [Hid] using hS⟩
  case round =>
    obtain ⟨D, rest, a, han, HI, Hal, Har, rfl, rfl, HS⟩ := hrel
    clear hS HI0
    by_cases hlt : a + 20 ≤ n
    · have hd : decide ((a : Int) + 20 ≤ (n : Int)) = true := decide_eq_true (by omega)
      have hrl : 20 ≤ rest.length := by have := Har.out; omega
      obtain ⟨R, hR, hRs⟩ := sorted_seg 20 (rest.take 20) (by rw [List.length_take]; omega) (HI.out.inc.sublist (List.take_sublist _ _))
      have hins := Hi.out wr (.slice ao n cap) n Rs (D.flatten.map Prod.fst) ((rest.take 20).map Prod.fst) ((rest.drop 20).map Prod.fst) (by
        have h := HS.out
        rw [← List.take_append_drop 20 rest] at h
        simpa [List.append_assoc, Hid] using h) (by have h := HS.out.sl_read.len; rw [parC_length] at h; simp at h ⊢; omega) hN (fun p hp => okc_perm Hco.out HI.out.perm p (by
          rw [← List.take_append_drop 20 rest]; simpa [List.append_assoc] using hp)) a (a + 20) (by rw [Hal.out, List.length_map]) (by rw [Hal.out, List.length_map, List.length_map, List.length_take]; omega)
      rw [← hRs] at hins
      have Hins := Lib.hid hins
      have HIn := Lib.hid (HI.out.next hR hrl)
      have hRl : R.length = 20 := by rw [hR.length, List.length_take]; omega
      have hcast : (a : Int) + 20 = ((a + 20 : Nat) : Int) := by omega
      obtain ⟨b, Hb⟩ : ∃ b, Hid (b = a + 20) := ⟨_, Lib.hid rfl⟩
      rw [← Hb.out] at Hins
      have hab : (a : Int) + 20 = (b : Int) := by rw [Hb.out]; rfl
      have hbn : (b : Int) ≤ (n : Int) := by rw [← hab]; omega
      have hbn2 : b ≤ n := by omega
      have HRl := Lib.hid hRl
      clear hins hR hRs hRl hcast HS
      go_wp2_with (go_at_call 89; refine Hins.out.mono ?_; rintro e' w3 ⟨rfl, hS3⟩; have HS3 := Lib.hid hS3; clear hS3 Hins)
      refine ⟨⟨D ++ [R], rest.drop 20, b, hbn2, HIn.out, ?_, ?_, rfl, rfl, ?_⟩, by simp [intOf]; have := Hb.out; omega⟩
      · unfold Hid; rw [Hb.out, Hal.out]; simp [HRl.out]
      · unfold Hid; rw [List.length_drop, Hb.out, ← Har.out]; omega
      · have h := HS3.out; simpa [List.append_assoc, Hid] using h
    · have hd : decide ((a : Int) + 20 ≤ (n : Int)) = false := decide_eq_false (by omega)
      have hrl : rest.length < 20 := by have := Har.out; omega
      obtain ⟨R, hR, hRs⟩ := sorted_seg rest.length rest rfl HI.out.inc
      have hins := Hi.out wr (.slice ao n cap) n Rs (D.flatten.map Prod.fst) (rest.map Prod.fst) [] (by have h := HS.out; simpa [Hid] using h) (by have h := HS.out.sl_read.len; rw [parC_length] at h; simp at h ⊢; omega) hN (fun p hp => okc_perm Hco.out HI.out.perm p (by simpa using hp)) a n (by rw [Hal.out, List.length_map]) (by rw [← Har.out, Hal.out, List.length_map, List.length_map])
      rw [← hRs] at hins
      have Hins := Lib.hid hins
      obtain ⟨T, hT, hTs, hTf⟩ := HI.out.last hR hrl
      have HT := Lib.hid hT
      have HTs := Lib.hid hTs
      have HTf := Lib.hid hTf
      clear hins hR hRs HS hT hTs hTf
      go_wp2_with (go_at_call 89; refine Hins.out.mono ?_; rintro e' w3 ⟨rfl, hS3⟩; have HS3 := Lib.hid hS3; clear hS3 Hins)
      have HS4 : Hid (Sat w3 (parS n (.slice ao n cap) (T.flatten.map Prod.fst) :: Rs)) := by have h := HS3.out; rw [HTf.out]; simpa [Hid] using h
      clear HS3 HTf
      go_loopw [6] (fun sv wr => ∃ (s : Nat) (T : List (List (Par × Nat))), 0 < s ∧ s ≤ 2097152 ∧ sv = .int .i64 s ∧ Hid (Parts Par.cost q0 T) ∧ Hid (Szd s T) ∧ Hid (Sat wr (parS n (.slice ao n cap) (T.flatten.map Prod.fst) :: Rs))) (fun sv _ => n - (intOf sv).toNat)
      case atStart => exact ⟨20, T, by omega, by omega, rfl, HT.out, HTs.out, HS4.out⟩
      case round =>
        clear HT HTs HS4
        obtain ⟨s, T, hs0, hs1, rfl, HT, HTs, HS⟩ := hrel
        have hTl : T.flatten.length = n := by rw [HT.out.perm.length_eq]; exact Hn.out
        have HTl := Lib.hid hTl
        clear hTl
        by_cases hsn : s < n
        · as_aux_lemma =>
            have hd5 : decide ((s : Int) < (n : Int)) = true := decide_eq_true (by omega)
            obtain ⟨s2, Hs2⟩ : ∃ s2, Hid (s2 = 2 * s) := ⟨_, Lib.hid rfl⟩
            have hs2I : (2 : Int) * (s : Int) = (s2 : Int) := by rw [Hs2.out]; rfl
            have hs2I' : (s : Int) * 2 = (s2 : Int) := by rw [Hs2.out]; omega
            have hs2b : s < s2 ∧ s2 ≤ 2097152 := by rw [Hs2.out]; omega
            obtain ⟨hs2b1, hs2b2⟩ := hs2b
            go_wp2
            go_loopw [7, 8] (fun av bv wr => ∃ (D E : List (List (Par × Nat))) (a : Nat), a ≤ n ∧ Hid (Parts Par.cost q0 (D ++ E)) ∧ Hid (∀ X ∈ D, X.length = s2) ∧ Hid (Szd s E) ∧ Hid (a = D.flatten.length) ∧ Hid (a + E.flatten.length = n) ∧ av = .int .i64 a ∧ bv = .int .i64 ((a : Int) + (s2 : Int)) ∧
              Hid (Sat wr (parS n (.slice ao n cap) ((D ++ E).flatten.map Prod.fst) :: Rs))) (fun av _ _ => n - (intOf av).toNat)
            case atStart => exact ⟨[], T, 0, by omega, HT.out, by unfold Hid; simp, HTs.out, rfl, by unfold Hid; rw [HTl.out]; omega, rfl, by simp, HS.out⟩
            case round =>
              clear HT HTs HS HTl
              obtain ⟨D, E, a, han, HP, HD, HE, Hal, Hae, rfl, rfl, HS⟩ := hrel
              by_cases hb : a + s2 ≤ n
              · have hd6 : decide ((a : Int) + (s2 : Int) ≤ (n : Int)) = true := decide_eq_true (by omega)
                obtain ⟨C1, C2, E', hEe, hC1, hC2, hE'⟩ := szd_two hs0 HE.out (by have := Hae.out; have := Hs2.out; omega)
                have hP := HP.out
                rw [hEe] at hP
                obtain ⟨q1, q2, q3⟩ := parts_ahead hP
                obtain ⟨m, Hm⟩ : ∃ m, Hid (m = a + s) := ⟨_, Lib.hid rfl⟩
                obtain ⟨b, Hb⟩ : ∃ b, Hid (b = a + s2) := ⟨_, Lib.hid rfl⟩
                have hmI : (a : Int) + (s : Int) = (m : Int) := by rw [Hm.out]; rfl
                have hbI : (a : Int) + (s2 : Int) = (b : Int) := by rw [Hb.out]; rfl
                have hbn : b ≤ n := by rw [Hb.out]; exact hb
                have hbnI : (b : Int) ≤ (n : Int) := by omega
                have Hsym := Lib.hid (Hsy.out (C1.length + C2.length) wr (.slice ao n cap) n Rs (D.flatten.map Prod.fst) (E'.flatten.map Prod.fst) C1 C2 (Nat.le_refl _) (by omega) (by omega) (by
                  have h := HS.out
                  rw [hEe] at h
                  simpa [List.append_assoc, Hid] using h) hN q2 q3 q1 (fun p hp => okc_perm Hco.out hP.perm p (by simpa [List.append_assoc] using hp)) a m b (by rw [Hal.out, List.length_map]) (by rw [Hm.out, hC1]) (by rw [Hb.out, Hm.out, hC2, Hs2.out]; omega))
                have HPn : Hid (∀ R, SortOf Par.cost (C1 ++ C2) R → Parts Par.cost q0 ((D ++ [R]) ++ E')) := by
                  intro R hR
                  have h := parts_merge hP hR
                  simpa [List.append_assoc] using h
                have HDn : Hid (∀ R, SortOf Par.cost (C1 ++ C2) R → R.length = s2) := by
                  intro R hR
                  rw [hR.length, List.length_append, hC1, hC2, Hs2.out]; omega
                have HE' := Lib.hid hE'
                have Hae' : Hid (b + E'.flatten.length = n) := by
                  have h := Hae.out
                  rw [hEe] at h
                  simp only [List.flatten_cons, List.length_append] at h
                  unfold Hid
                  rw [Hb.out, Hs2.out]; omega
                clear q1 q2 q3 hEe hC1 hC2 hE' hP HP HS HE Hae
                go_wp2_with (go_at_call 90; refine Hsym.out.mono ?_; rintro e' w3 ⟨rfl, R, hR, hS3⟩; have HS3 := Lib.hid hS3; have HR := Lib.hid hR; clear hS3 Hsym hR)
                refine ⟨⟨D ++ [R], E', b, hbn, HPn.out R HR.out, ?_, HE'.out, ?_, Hae'.out, rfl, rfl, ?_⟩, by simp [intOf]; have := Hb.out; omega⟩
                · intro X hX
                  rcases List.mem_append.1 hX with hX | hX
                  · exact HD.out X hX
                  · rw [List.mem_singleton] at hX; subst hX; exact HDn.out X HR.out
                · unfold Hid
                  rw [Hb.out, Hal.out, List.flatten_append, List.length_append]
                  simp [HDn.out R HR.out]
                · have h := HS3.out; simpa [List.append_assoc, Hid] using h
              · have hd6 : decide ((a : Int) + (s2 : Int) ≤ (n : Int)) = false := decide_eq_false (by omega)
                obtain ⟨m, Hm⟩ : ∃ m, Hid (m = a + s) := ⟨_, Lib.hid rfl⟩
                have hmI : (a : Int) + (s : Int) = (m : Int) := by rw [Hm.out]; rfl
                have hel : E.flatten.length < 2 * s := by have := Hae.out; have := Hs2.out; omega
                by_cases hmn : m < n
                · have hd7 : decide ((m : Int) < (n : Int)) = true := decide_eq_true (by omega)
                  have hd8 : decide (m < n) = true := decide_eq_true (by omega)
                  obtain ⟨C1, C2, hEe, hC1, hC2, hC3⟩ : ∃ C1 C2, E = [C1, C2] ∧ C1.length = s ∧ 0 < C2.length ∧ C2.length ≤ s := by
                    have e1 := Hae.out
                    have e2 := Hm.out
                    rcases szd_small HE.out hel with h | ⟨C, h, h1, h2⟩ | h
                    · subst h; simp at e1; omega
                    · subst h; simp at e1; omega
                    · exact h
                  have hP := HP.out
                  rw [hEe] at hP
                  obtain ⟨q1, q2, q3⟩ := parts_ahead hP
                  have Hsym := Lib.hid (Hsy.out (C1.length + C2.length) wr (.slice ao n cap) n Rs (D.flatten.map Prod.fst) [] C1 C2 (Nat.le_refl _) (by omega) (by omega) (by
                    have h := HS.out
                    rw [hEe] at h
                    simpa [List.append_assoc, Hid] using h) hN q2 q3 q1 (fun p hp => okc_perm Hco.out hP.perm p (by simpa [List.append_assoc] using hp)) a m n (by rw [Hal.out, List.length_map]) (by rw [Hm.out, hC1]) (by have h := Hae.out; rw [hEe] at h; simp at h; rw [Hm.out]; omega))
                  have HPn : Hid (∀ R, SortOf Par.cost (C1 ++ C2) R → Parts Par.cost q0 (D ++ [R])) := fun R hR => parts_merge hP hR
                  have HSn : Hid (∀ R, SortOf Par.cost (C1 ++ C2) R → Szd s2 (D ++ [R])) := fun R hR => szd_app (by omega) (show Szd s2 [R] from Or.inl ⟨rfl, by rw [hR.length, List.length_append]; omega, by rw [hR.length, List.length_append, Hs2.out]; omega⟩) D HD.out
                  clear q1 q2 q3 hEe hC1 hC2 hC3 hP HP HS HE Hae
                  go_wp2_with (go_at_call 90; refine Hsym.out.mono ?_; rintro e' w3 ⟨rfl, R, hR, hS3⟩; have HS3 := Lib.hid hS3; have HR := Lib.hid hR; clear hS3 Hsym hR)
                  refine ⟨⟨s2, D ++ [R], by omega, hs2b2, rfl, HPn.out R HR.out, HSn.out R HR.out, ?_⟩, by simp [intOf]; omega⟩
                  have h := HS3.out
                  simpa [List.append_assoc, Hid] using h
                · have hd7 : decide ((m : Int) < (n : Int)) = false := decide_eq_false (by omega)
                  have hd8 : decide (m < n) = false := decide_eq_false (by omega)
                  have HSn : Hid (Szd s2 (D ++ E)) := by
                    refine szd_app (by omega) ?_ D HD.out
                    have e1 := Hae.out
                    have e2 := Hm.out
                    have e3 := Hs2.out
                    rcases szd_small HE.out hel with h | ⟨C, h, h1, h2⟩ | ⟨C1, C2, h, h1, h2, h3⟩
                    · subst h; trivial
                    · subst h; exact Or.inl ⟨rfl, h1, by omega⟩
                    · subst h; simp at e1; omega
                  clear hel
                  go_wp2
                  exact ⟨⟨s2, D ++ E, by omega, hs2b2, rfl, HP.out, HSn.out, HS.out⟩, by simp [intOf]; omega⟩
        · have hd5 : decide ((s : Int) < (n : Int)) = false := decide_eq_false (by omega)
          have HE := Lib.hid (parts_end HT.out HTs.out (by rw [HTl.out]; omega))
          go_wp2
          go_end0
          exact ⟨rfl, _, HE.out, HS.out⟩

theorem cmpOk_1 : CmpOk 49 where
  fn args w := by
    have h1 : (Try.f49.name == "runtime.NumGoroutine") = false := by kernel_rfl
    have h2 : Try.f49.body.isNone = false := by kernel_rfl
    have h1' : ¬ Try.f49.name = "runtime.NumGoroutine" := by simpa using h1
    have h2' : ¬ Try.f49.body = none := by intro e; rw [e] at h2; cases h2
    simp [callFunc, go_sem, Try.func49, h1', h2']
  run p q w h1 h2 h3 h4 := cmp1_any _ _ _ _ w h1 h2 h3 h4
theorem cmpOk_2 : CmpOk 53 where
  fn args w := by
    have h1 : (Try.f53.name == "runtime.NumGoroutine") = false := by kernel_rfl
    have h2 : Try.f53.body.isNone = false := by kernel_rfl
    have h1' : ¬ Try.f53.name = "runtime.NumGoroutine" := by simpa using h1
    have h2' : ¬ Try.f53.body = none := by intro e; rw [e] at h2; cases h2
    simp [callFunc, go_sem, Try.func53, h1', h2']
  run p q w h1 h2 h3 h4 := cmp2_any _ _ _ _ w h1 h2 h3 h4
theorem insOk_1 : InsOk 49 := fun w v N Rs pre seg suf hS hN hN2 hc a b ha hb => insertion_1 pre seg suf hS hN hN2 hc a b ha hb
theorem insOk_2 : InsOk 53 := fun w v N Rs pre seg suf hS hN hN2 hc a b ha hb => insertion_2 pre seg suf hS hN hN2 hc a b ha hb

theorem zip_fst (ps : List Par) : ps.zipIdx.map Prod.fst = ps := by
  have : ∀ (ps : List Par) (k : Nat), (ps.zipIdx k).map Prod.fst = ps := by
    intro ps
    induction ps with
    | nil => intro k; rfl
    | cons p r ih => intro k; simp [List.zipIdx_cons, ih]
  exact this ps 0
theorem zip_inc (ps : List Par) : ps.zipIdx.Pairwise (fun x y => x.2 < y.2) := by
  rw [List.pairwise_iff_getElem]
  intro i j hi hj hij
  simp only [List.getElem_zipIdx]
  omega

set_option maxRecDepth 100000 in
set_option maxHeartbeats 1000000 in
/-- slices.SortStableFunc at parcels. -/
theorem sortOk_any {c : Nat} (hc : CmpOk c) (hi : InsOk c) : SortOk 1048576 c := by
  intro w v ps Rs hK hco hS
  have key : Calls Try.prog 77 #[v, .int .i64 ps.length, .func (.func c) #[] #[]] w fun e w' => e = .returned (.tuple #[]) ∧ Sat w' (sl 92 2 ps.length v (parC (sortP ps)) :: Rs) := by
    have hz := zip_fst ps
    have hst := stable_walk hc hi (n := ps.length) ps.zipIdx (by rw [hz]; exact hS) (by simp) hK (fun x hx => hco x.1 (by rw [← hz]; exact List.mem_map_of_mem hx)) (zip_inc ps)
    refine hst.mono ?_
    rintro e w' ⟨rfl, R, hR, h3⟩
    obtain ⟨R2, hR2, hm2⟩ := sorted_seg ps.zipIdx.length ps.zipIdx rfl (zip_inc ps)
    rw [hR.one hR2, hm2, hz] at h3
    exact ⟨rfl, h3⟩
  have Hk := Lib.hid key
  obtain ⟨F, ao, cap, rfl, -, -, -, -⟩ := hS.first
  clear key hc hi hco hS
  go_enter Try.func48, Try.ntmps48
  go_wp2_with (go_at_call 77; refine Hk.out.mono ?_; rintro e w1 ⟨rfl, hS1⟩)
  go_end0
  exact ⟨rfl, hS1⟩
theorem sortOk_big1 : SortOk 1048576 49 := sortOk_any cmpOk_1 insOk_1
theorem sortOk_big2 : SortOk 1048576 53 := sortOk_any cmpOk_2 insOk_2

end Go.Proofs.Ytobkmkdnkdbgeaa
