/- slices.SortStableFunc at huff's parcels: symMerge. -/
import Derived.Test.YtobkmkdnkdbgeaaStbB
import Derived.Deep.CutRange
namespace Go.Proofs.Ytobkmkdnkdbgeaa
open Go.RowKit Go.Hal
set_option linter.unusedVariables false
set_option linter.unusedSimpArgs false

/-- symMerge at two rows of no more than t parcels. -/
def SymOk (c t : Nat) : Prop := ∀ (w : World) (v : Value) (N : Nat) (Rs : List Res) (pre suf : List Par) (A B : List (Par × Nat)), A.length + B.length ≤ t → 0 < A.length → 0 < B.length → Sat w (parS N v (pre ++ A.map Prod.fst ++ B.map Prod.fst ++ suf) :: Rs) → N ≤ 1048576 →
  A.Pairwise (PLt Par.cost) → B.Pairwise (PLt Par.cost) → Ahead A B → (∀ p ∈ pre ++ A.map Prod.fst ++ B.map Prod.fst ++ suf, 0 ≤ p.cost ∧ p.cost ≤ 1152921504606846976) → ∀ a m b : Nat, a = pre.length → m = a + A.length → b = m + B.length →
  Calls Try.prog 90 #[v, .int .i64 a, .int .i64 m, .int .i64 b, .func (.func c) #[] #[]] w fun e w' => e = .returned (.tuple #[]) ∧ ∃ R, SortOf Par.cost (A ++ B) R ∧ Sat w' (parS N v (pre ++ R.map Prod.fst ++ suf) :: Rs)

theorem Ahead.left {A B A2 B2 : List (Par × Nat)} (h : Ahead A B) (h1 : ∀ x ∈ A2, x ∈ A) (h2 : ∀ x ∈ B2, x ∈ B) : Ahead A2 B2 := fun x hx y hy => h x (h1 x hx) y (h2 y hy)
theorem sortOf_cat {A B : List (Par × Nat)} (hA : A.Pairwise (PLt Par.cost)) (hB : B.Pairwise (PLt Par.cost)) (h : A.length = 0 ∨ B.length = 0) : SortOf Par.cost (A ++ B) (A ++ B) := by
  rcases h with h | h
  · rw [List.length_eq_zero_iff] at h; subst h; exact SortOf.refl hB
  · rw [List.length_eq_zero_iff] at h; subst h; rw [List.append_nil]; exact SortOf.refl hA

/-- What the search for the parting place knows. -/
def LoC (A B : List (Par × Nat)) (a mid lo i : Nat) : Prop := ∀ c x y, lo ≤ c → c < i → A[c - a]? = some x → B[mid - 1 - c]? = some y → x.1.cost ≤ y.1.cost
def HiC (A B : List (Par × Nat)) (a mid hi j : Nat) : Prop := ∀ c x y, j ≤ c → c < hi → A[c - a]? = some x → B[mid - 1 - c]? = some y → y.1.cost < x.1.cost

set_option maxRecDepth 100000 in
set_option maxHeartbeats 8000000 in
theorem sym_both {c t : Nat} (hc : CmpOk c) (ih : SymOk c t) {w : World} {v : Value} {N : Nat} {Rs : List Res} (pre suf : List Par) (A B : List (Par × Nat)) (ht : A.length + B.length ≤ t + 1) (hA1 : 1 < A.length) (hB1 : 1 < B.length)
    (hS : Sat w (parS N v (pre ++ A.map Prod.fst ++ B.map Prod.fst ++ suf) :: Rs)) (hN2 : N ≤ 1048576)
    (hA : A.Pairwise (PLt Par.cost)) (hB : B.Pairwise (PLt Par.cost)) (hAB : Ahead A B) (hco : ∀ p ∈ pre ++ A.map Prod.fst ++ B.map Prod.fst ++ suf, 0 ≤ p.cost ∧ p.cost ≤ 1152921504606846976) (a m b : Nat) (ha : a = pre.length) (hm : m = a + A.length) (hb : b = m + B.length) :
    Calls Try.prog 90 #[v, .int .i64 a, .int .i64 m, .int .i64 b, .func (.func c) #[] #[]] w fun e w' => e = .returned (.tuple #[]) ∧ ∃ R, SortOf Par.cost (A ++ B) R ∧ Sat w' (parS N v (pre ++ R.map Prod.fst ++ suf) :: Rs) := by
  obtain ⟨F, ao, cap, rfl, -, -, -, -⟩ := hS.first
  have hlen : (pre ++ A.map Prod.fst ++ B.map Prod.fst ++ suf).length = N := by have := hS.sl_read.len; rw [parC_length] at this; omega
  have hbN : b ≤ N := by rw [← hlen, hb, hm, ha]; simp; omega
  have hd1 : ((m : Int) - (a : Int) == 1) = false := beq_eq_false_iff_ne.2 (by omega)
  have hd2 : ((b : Int) - (m : Int) == 1) = false := beq_eq_false_iff_ne.2 (by omega)
  obtain ⟨mid, Hmid⟩ : ∃ mid, Hid (mid = (a + b) / 2) := ⟨_, Lib.hid rfl⟩
  have hmidI : ((a : Int) + (b : Int)) / 2 = (mid : Int) := by rw [Hmid.out]; omega
  obtain ⟨lo, hi, hloM, hhiM, hlohi, Hlohi⟩ : ∃ lo hi : Nat, (mid < m → (lo : Int) = (mid : Int) + (m : Int) - (b : Int) ∧ hi = mid) ∧ (¬ mid < m → lo = a ∧ hi = m) ∧ lo ≤ hi ∧ Hid (a ≤ lo ∧ hi ≤ m ∧ hi ≤ mid ∧ mid + m ≤ lo + b ∧ (lo = a ∨ lo + b = mid + m) ∧ (hi = m ∨ hi = mid)) := by
    have := Hmid.out
    by_cases h : mid < m
    · exact ⟨mid + m - b, mid, fun _ => ⟨by omega, rfl⟩, fun h2 => absurd h h2, by omega, by unfold Hid; omega⟩
    · exact ⟨a, m, fun h2 => absurd h2 h, fun _ => ⟨rfl, rfl⟩, by omega, by unfold Hid; omega⟩
  have hmid1 : a < mid := by have := Hmid.out; omega
  have hmid2 : mid < b := by have := Hmid.out; omega
  have ham : a + 1 < m := by omega
  have hmb : m + 1 < b := by omega
  have HA := Lib.hid hA
  have HB := Lib.hid hB
  have HAB := Lib.hid hAB
  have Hco := Lib.hid hco
  have Ha := Lib.hid ha
  have Hb := Lib.hid hb
  have Hm := Lib.hid hm
  have Ht := Lib.hid ht
  have Hlen := Lib.hid hlen
  have Hih := Lib.hid ih
  have hfn := hc.fn
  have HC := Lib.hid hc.run
  have HloM := Lib.hid hloM
  have HhiM := Lib.hid hhiM
  clear hc hA hB hAB hco ha hb hm hlen hA1 hB1 ih ht hloM hhiM
  go_enter Try.func90, Try.ntmps90
  go_upto_if 140 with (fail)
  go_cut [20, 21] from 25 (fun s20 s21 wx => s20 = .int .i64 lo ∧ s21 = .int .i64 hi ∧ wx = w)
  case first =>
    by_cases hmm : mid < m
    · have hdm : decide ((mid : Int) < (m : Int)) = true := decide_eq_true (by omega)
      have h1 := Lib.hid (HloM.out hmm).1
      have h2 := Lib.hid (HloM.out hmm).2
      go_wp2
      all_goals first
        | (exfalso; omega)
        | (go_meet
           exact ⟨vi h1.out.symm, by rw [h2.out], rfl⟩)
    · have hdm : decide ((mid : Int) < (m : Int)) = false := decide_eq_false (by omega)
      have h1 := Lib.hid (HhiM.out (by omega)).1
      have h2 := Lib.hid (HhiM.out (by omega)).2
      go_wp2
      all_goals first
        | (exfalso; omega)
        | (go_meet
           exact ⟨by rw [h1.out], by rw [h2.out], rfl⟩)
  obtain ⟨rfl, rfl, rfl⟩ := hcut
  go_wp2
  go_loopw [20, 21] (fun iv jv wr => ∃ i j : Nat, lo ≤ i ∧ i ≤ j ∧ j ≤ hi ∧ iv = .int .i64 i ∧ jv = .int .i64 j ∧ Hid (LoC A B a mid lo i) ∧ Hid (HiC A B a mid hi j) ∧
    Hid (Sat wr (parS N (.slice ao N cap) (pre ++ A.map Prod.fst ++ B.map Prod.fst ++ suf) :: Rs))) (fun iv jv _ => (intOf jv - intOf iv).toNat)
  case atStart => exact ⟨lo, hi, by omega, hlohi, by omega, rfl, rfl, fun c x y h1 h2 => by omega, fun c x y h1 h2 => by omega, hS⟩
  case round =>
    obtain ⟨i, j, hmi, hij, hjb, rfl, rfl, Hlo, Hhi, HS⟩ := hrel
    clear hS
    by_cases hlt : i < j
    · have hd : decide ((i : Int) < (j : Int)) = true := decide_eq_true (by omega)
      as_aux_lemma =>
        obtain ⟨h, Hh⟩ : ∃ h, Hid (h = (i + j) / 2) := ⟨_, Lib.hid rfl⟩
        have hhI : ((i : Int) + (j : Int)) / 2 = (h : Int) := by rw [Hh.out]; omega
        have hih : i ≤ h := by rw [Hh.out]; omega
        have hhj : h < j := by rw [Hh.out]; omega
        have hq9 : a ≤ h ∧ h < m ∧ h < mid ∧ mid + m ≤ h + b := by have := Hlohi.out; omega
        obtain ⟨hah, hhm, hhmid, hmh⟩ := hq9
        obtain ⟨g, Hg⟩ : ∃ g, Hid (g = mid - 1 - h + m) := ⟨_, Lib.hid rfl⟩
        have hgI : (mid : Int) + (m : Int) - 1 - (h : Int) = (g : Int) := by rw [Hg.out]; omega
        have hkA : h - a < A.length := by have := Hm.out; omega
        have hkB : mid - 1 - h < B.length := by have := Hb.out; omega
        obtain ⟨x, hx⟩ : ∃ x, A[h - a]? = some x := ⟨_, List.getElem?_eq_getElem hkA⟩
        obtain ⟨y, hy⟩ : ∃ y, B[mid - 1 - h]? = some y := ⟨_, List.getElem?_eq_getElem hkB⟩
        have hxL : (pre ++ A.map Prod.fst ++ B.map Prod.fst ++ suf)[h]? = some x.1 := by
          rw [List.append_assoc, List.append_assoc, List.getElem?_append_right (by rw [← Ha.out]; omega), ← Ha.out, List.getElem?_append_left (by simpa using hkA), List.getElem?_map, hx]; rfl
        have hyL : (pre ++ A.map Prod.fst ++ B.map Prod.fst ++ suf)[g]? = some y.1 := by
          have e : g = pre.length + A.length + (mid - 1 - h) := by rw [Hg.out, Hm.out, Ha.out]; omega
          rw [e, List.append_assoc, List.getElem?_append_right (by simp), List.getElem?_append_left (by simp; omega), List.getElem?_map]
          rw [show pre.length + A.length + (mid - 1 - h) - (pre ++ A.map Prod.fst).length = mid - 1 - h by simp, hy]; rfl
        have hgN : g < N := by rw [← Hlen.out]; exact (List.getElem?_eq_some_iff.1 hyL).1
        have hx0 := Hco.out x.1 (List.mem_of_getElem? hxL)
        have hy0 := Hco.out y.1 (List.mem_of_getElem? hyL)
        obtain ⟨b0, off, cap', heq, hb0, hff, hcc⟩ := par_cells HS.out (by omega)
        simp only [Value.slice.injEq, true_and] at heq
        obtain ⟨rfl, rfl⟩ := heq
        obtain ⟨c1, c2⟩ := hcc _ _ hyL
        obtain ⟨c3, c4⟩ := hcc _ _ hxL
        have hw1 : IntKind.i64.wrap (h : Int) = h := i64_id _ (by omega) (by omega)
        have hw2 : IntKind.i64.wrap (g : Int) = g := i64_id _ (by omega) (by omega)
        have hz1 : (0 : Int) ≤ (h : Int) := by omega
        have hz2 : (h : Int) < (N : Int) := by omega
        have hz3 : (0 : Int) ≤ (g : Int) := by omega
        have hz4 : (g : Int) < (N : Int) := by omega
        have hw3 : IntKind.i64.wrap (y.1.cost - x.1.cost) = y.1.cost - x.1.cost := i64_id _ (by omega) (by omega)
        have Hcall := Lib.hid (fun W => HC.out y.1 x.1 W hy0.1 hy0.2 hx0.1 hx0.2)
        have Hx := Lib.hid hx
        have Hy := Lib.hid hy
        have Hq := Lib.hid Hlohi.out
        clear hcc hff hyL hxL hy hx hy0 hx0
        by_cases hlt2 : y.1.cost < x.1.cost
        · have hd3 : decide (y.1.cost - x.1.cost < 0) = true := decide_eq_true (by omega)
          go_wp2_with fail
          go_region_held3 (fun w' => w'.cell? ⟨b0, off + g * 2, none⟩ = some (.int .i64 y.1.cost) ∧ w'.cell? ⟨b0, off + g * 2 + 1, none⟩ = some y.1.w ∧ w'.cell? ⟨b0, off + h * 2, none⟩ = some (.int .i64 x.1.cost) ∧ w'.cell? ⟨b0, off + h * 2 + 1, none⟩ = some x.1.w)
            (first | go_keep | exact ⟨(hM.cell hb0).trans c1, (hM.cell hb0).trans c2, (hM.cell hb0).trans c3, (hM.cell hb0).trans c4⟩) (((with_reducible refine (Hcall.out _).mono ?_); rintro e w1 ⟨rfl, hM⟩))
          have HS3 := Lib.hid (HS.out.drew.keep hM)
          clear hM c1 c2 c3 c4 HS Hcall
          go_wp2
          refine ⟨⟨i, h, hmi, hih, by omega, rfl, rfl, Hlo.out, fun k z u hk hk2 hz hu => ?_, HS3.out⟩, by simp [intOf]; omega⟩
          have e1 := cost_mono HA.out (show h - a ≤ k - a by omega) Hx.out hz
          have e2 := cost_mono HB.out (show mid - 1 - k ≤ mid - 1 - h by omega) hu Hy.out
          omega
        · have hd3 : decide (y.1.cost - x.1.cost < 0) = false := decide_eq_false (by omega)
          go_wp2_with fail
          go_region_held3 (fun w' => w'.cell? ⟨b0, off + g * 2, none⟩ = some (.int .i64 y.1.cost) ∧ w'.cell? ⟨b0, off + g * 2 + 1, none⟩ = some y.1.w ∧ w'.cell? ⟨b0, off + h * 2, none⟩ = some (.int .i64 x.1.cost) ∧ w'.cell? ⟨b0, off + h * 2 + 1, none⟩ = some x.1.w)
            (first | go_keep | exact ⟨(hM.cell hb0).trans c1, (hM.cell hb0).trans c2, (hM.cell hb0).trans c3, (hM.cell hb0).trans c4⟩) (((with_reducible refine (Hcall.out _).mono ?_); rintro e w1 ⟨rfl, hM⟩))
          have HS3 := Lib.hid (HS.out.drew.keep hM)
          clear hM c1 c2 c3 c4 HS Hcall
          go_wp2
          refine ⟨⟨h + 1, j, by omega, by omega, hjb, by go_num, rfl, fun k z u hk hk2 hz hu => ?_, Hhi.out, HS3.out⟩, by simp [intOf]; omega⟩
          have e1 := cost_mono HA.out (show k - a ≤ h - a by omega) hz Hx.out
          have e2 := cost_mono HB.out (show mid - 1 - h ≤ mid - 1 - k by omega) Hy.out hu
          omega
    · have hd : decide ((i : Int) < (j : Int)) = false := decide_eq_false (by omega)
      as_aux_lemma =>
        obtain ⟨e, He⟩ : ∃ e, Hid (e = mid + m - i) := ⟨_, Lib.hid rfl⟩
        have hse : i ≤ mid + m := by have := Hlohi.out; omega
        have heI : (mid : Int) + (m : Int) - (i : Int) = (e : Int) := by rw [He.out]; omega
        obtain ⟨sA, HsA⟩ : ∃ sA, Hid (i = a + sA) := ⟨i - a, by unfold Hid; have := Hlohi.out; omega⟩
        obtain ⟨u, Hu⟩ : ∃ u, Hid (mid = i + u) := ⟨mid - i, by unfold Hid; have := Hlohi.out; omega⟩
        have hsAl : sA ≤ A.length := by have := HsA.out; have := Hlohi.out; have := Hm.out; omega
        have hul : u ≤ B.length := by have := Hu.out; have := Hlohi.out; have := Hb.out; omega
        -- the parts are parted rightly
        have hparts : ∀ r1 r2, SortOf Par.cost (A.take sA ++ B.take u) r1 → SortOf Par.cost (A.drop sA ++ B.drop u) r2 → SortOf Par.cost (A ++ B) (r1 ++ r2) := by
          intro r1 r2 k1 k2
          have q1 := HsA.out
          have q2 := Hu.out
          have q3 := Hlohi.out
          have q4 := Hm.out
          have q5 := Hb.out
          refine merge_parts A B HA.out HB.out HAB.out sA u hsAl hul (fun x y h0 hx hy => ?_) (fun x y h0 hx hy => ?_) k1 k2
          · have hyl := (List.getElem?_eq_some_iff.1 hy).1
            have := Hlo.out (i - 1) x y (by omega) (by omega) (by rw [show i - 1 - a = sA - 1 by omega]; exact hx) (by rw [show mid - 1 - (i - 1) = u by omega]; exact hy)
            omega
          · have hxl := (List.getElem?_eq_some_iff.1 hx).1
            exact Hhi.out i x y (by omega) (by omega) (by rw [show i - a = sA by omega]; exact hx) (by rw [show mid - 1 - i = u - 1 by omega]; exact hy)
        have Hparts := Lib.hid hparts
        clear hparts Hlo Hhi
        have Hcs : Hid (∀ p, (p ∈ pre ∨ (∃ x ∈ A, x.1 = p) ∨ (∃ x ∈ B, x.1 = p) ∨ p ∈ suf) → 0 ≤ p.cost ∧ p.cost ≤ 1152921504606846976) := by
          intro p hp
          refine Hco.out p ?_
          rw [List.mem_append, List.mem_append, List.mem_append, List.mem_map, List.mem_map]
          rcases hp with h | h | h | h
          · exact .inl (.inl (.inl h))
          · exact .inl (.inl (.inr h))
          · exact .inl (.inr h)
          · exact .inr h
        obtain ⟨A1, HA1⟩ : ∃ A1, Hid (A1 = A.take sA) := ⟨_, Lib.hid rfl⟩
        obtain ⟨A2, HA2⟩ : ∃ A2, Hid (A2 = A.drop sA) := ⟨_, Lib.hid rfl⟩
        obtain ⟨B1, HB1⟩ : ∃ B1, Hid (B1 = B.take u) := ⟨_, Lib.hid rfl⟩
        obtain ⟨B2, HB2⟩ : ∃ B2, Hid (B2 = B.drop u) := ⟨_, Lib.hid rfl⟩
        have HAc : Hid (A = A1 ++ A2) := by unfold Hid; rw [HA1.out, HA2.out, List.take_append_drop]
        have HBc : Hid (B = B1 ++ B2) := by unfold Hid; rw [HB1.out, HB2.out, List.take_append_drop]
        have la1 : A1.length = sA := by rw [HA1.out, List.length_take]; omega
        have la2 : A2.length + i = m := by rw [HA2.out, List.length_drop]; have := HsA.out; have := Hm.out; omega
        have lb1 : B1.length = u := by rw [HB1.out, List.length_take]; omega
        have lb2 : B2.length + e = b := by rw [HB2.out, List.length_drop]; have := He.out; have := Hu.out; have := Hb.out; omega
        have hiA : a + A1.length = i := by rw [la1]; exact HsA.out.symm
        have hmB : i + B1.length = mid := by rw [lb1]; exact Hu.out.symm
        have heB : m + B1.length = e := by rw [lb1, He.out]; have := Hu.out; omega
        have hmA2 : mid + A2.length = e := by omega
        have htt : A1.length + B1.length ≤ t ∧ A2.length + B2.length ≤ t := by have h1 := Ht.out; rw [HAc.out, HBc.out, List.length_append, List.length_append] at h1; omega
        rw [← HA1.out, ← HA2.out, ← HB1.out, ← HB2.out] at Hparts
        have HS5 : Hid (Sat wr (parS N (.slice ao N cap) (pre ++ A1.map Prod.fst ++ A2.map Prod.fst ++ B1.map Prod.fst ++ (B2.map Prod.fst ++ suf)) :: Rs)) := by
          have h := HS.out
          rw [HAc.out, HBc.out] at h
          simpa [List.append_assoc, Hid] using h
        have HA' := Lib.hid HA.out
        have HB' := Lib.hid HB.out
        have HAB' := Lib.hid HAB.out
        rw [HAc.out] at HA'
        rw [HBc.out] at HB'
        rw [HAc.out, HBc.out] at HAB'
        obtain ⟨pA1, pA2, -⟩ := List.pairwise_append.1 HA'.out
        obtain ⟨pB1, pB2, -⟩ := List.pairwise_append.1 HB'.out
        have PA1 := Lib.hid pA1
        have PA2 := Lib.hid pA2
        have PB1 := Lib.hid pB1
        have PB2 := Lib.hid pB2
        have AB1 : Hid (Ahead A1 B1) := Ahead.left HAB'.out (fun x hx => List.mem_append_left _ hx) (fun x hx => List.mem_append_left _ hx)
        have AB2 : Hid (Ahead A2 B2) := Ahead.left HAB'.out (fun x hx => List.mem_append_right _ hx) (fun x hx => List.mem_append_right _ hx)
        clear la1 lb1 pA1 pA2 pB1 pB2 HS HA' HB' HAB'
        go_upto_region 39 with (fail)
        go_cut [185] from 25 (fun s9 wx => ∃ bb, Hid (bb = decide (i < m ∧ m < e)) ∧ s9 = .bool bb ∧ wx = wr)
        case first =>
          by_cases h1 : i < m
          · by_cases h2 : m < e
            · have k1 : decide ((i : Int) < (m : Int)) = true := decide_eq_true (by omega)
              have k2 : decide ((m : Int) < (e : Int)) = true := decide_eq_true (by omega)
              go_wp2
              go_meet
              exact ⟨true, (decide_eq_true (p := i < m ∧ m < e) ⟨h1, h2⟩).symm, rfl, rfl⟩
            · have k1 : decide ((i : Int) < (m : Int)) = true := decide_eq_true (by omega)
              have k2 : decide ((m : Int) < (e : Int)) = false := decide_eq_false (by omega)
              go_wp2
              go_meet
              exact ⟨false, (decide_eq_false (p := i < m ∧ m < e) (by omega)).symm, rfl, rfl⟩
          · have k1 : decide ((i : Int) < (m : Int)) = false := decide_eq_false (by omega)
            go_wp2
            all_goals (go_meet; exact ⟨false, (decide_eq_false (p := i < m ∧ m < e) (by omega)).symm, rfl, rfl⟩)
        as_aux_lemma =>
          obtain ⟨bb, Hbb, rfl, rfl⟩ := hcut
          go_upto_if 185 with (fail)
          go_cut [] from 25 (fun wx => Hid (Sat wx (parS N (.slice ao N cap) (pre ++ A1.map Prod.fst ++ B1.map Prod.fst ++ (A2.map Prod.fst ++ (B2.map Prod.fst ++ suf))) :: Rs)))
          case first =>
            cases bb
            rotate_left
            · have hb : i < m ∧ m < e := of_decide_eq_true Hbb.out.symm
              have Hrot := Lib.hid (rotate_any (pre ++ A1.map Prod.fst) (A2.map Prod.fst) (B1.map Prod.fst) (B2.map Prod.fst ++ suf) HS5.out (by have := HS5.out.sl_read.len; rw [parC_length] at this; omega) hN2 (by simp; omega) (by simp; omega) i m e (by have := Ha.out; simp; omega) (by have := Ha.out; simp; omega) (by have := Ha.out; simp; omega) (.func (.func c) #[] #[]))
              clear hb
              go_wp2_with (go_at_call 92; refine Hrot.out.mono ?_; rintro e' w3 ⟨rfl, hS3⟩; have HS6 := Lib.hid hS3; clear hS3 Hrot)
              go_meet
              have h := HS6.out
              simpa [List.append_assoc, Hid] using h
            · have hb : ¬ (i < m ∧ m < e) := of_decide_eq_false Hbb.out.symm
              have hz : A2.length = 0 ∨ B1.length = 0 := by omega
              have Hz := Lib.hid hz
              clear hb hz
              go_wp2
              go_meet
              have h := HS5.out
              rcases Hz.out with h0 | h0
              · rw [List.length_eq_zero_iff] at h0; subst h0; simpa [List.append_assoc, Hid] using h
              · rw [List.length_eq_zero_iff] at h0; subst h0; simpa [List.append_assoc, Hid] using h
          as_aux_lemma =>
            have HS6 := hcut
            clear hcut HS5
            go_upto_region 41 with (fail)
            go_cut [199] from 25 (fun s9 wx => ∃ bb, Hid (bb = decide (a < i ∧ i < mid)) ∧ s9 = .bool bb ∧ wx = wc)
            case first =>
              by_cases h1 : a < i
              · by_cases h2 : i < mid
                · have k1 : decide ((a : Int) < (i : Int)) = true := decide_eq_true (by omega)
                  have k2 : decide ((i : Int) < (mid : Int)) = true := decide_eq_true (by omega)
                  go_wp2
                  go_meet
                  exact ⟨true, (decide_eq_true (p := a < i ∧ i < mid) ⟨h1, h2⟩).symm, rfl, rfl⟩
                · have k1 : decide ((a : Int) < (i : Int)) = true := decide_eq_true (by omega)
                  have k2 : decide ((i : Int) < (mid : Int)) = false := decide_eq_false (by omega)
                  go_wp2
                  go_meet
                  exact ⟨false, (decide_eq_false (p := a < i ∧ i < mid) (by omega)).symm, rfl, rfl⟩
              · have k1 : decide ((a : Int) < (i : Int)) = false := decide_eq_false (by omega)
                go_wp2
                all_goals (go_meet; exact ⟨false, (decide_eq_false (p := a < i ∧ i < mid) (by omega)).symm, rfl, rfl⟩)
            as_aux_lemma =>
              obtain ⟨bb, Hbb, rfl, hw9⟩ := hcut
              subst hw9
              go_upto_if 199 with (fail)
              go_cut [] from 25 (fun wx => ∃ R1, Hid (SortOf Par.cost (A1 ++ B1) R1) ∧ Hid (Sat wx (parS N (.slice ao N cap) (pre ++ R1.map Prod.fst ++ (A2.map Prod.fst ++ (B2.map Prod.fst ++ suf))) :: Rs)))
              case first =>
                cases bb
                rotate_left
                · have hb : a < i ∧ i < mid := of_decide_eq_true Hbb.out.symm
                  have Hsym := Lib.hid (Hih.out _ (.slice ao N cap) N Rs pre (A2.map Prod.fst ++ (B2.map Prod.fst ++ suf)) A1 B1 htt.1 (by omega) (by omega) HS6.out hN2 PA1.out PB1.out AB1.out (by
                    intro p hp
                    refine Hcs.out p ?_
                    rw [HAc.out, HBc.out]
                    simp only [List.mem_append, List.mem_map] at hp ⊢
                    rcases hp with ((h | ⟨x, h, rfl⟩) | ⟨x, h, rfl⟩) | ⟨x, h, rfl⟩ | ⟨x, h, rfl⟩ | h
                    · exact .inl h
                    · exact .inr (.inl ⟨x, .inl h, rfl⟩)
                    · exact .inr (.inr (.inl ⟨x, .inl h, rfl⟩))
                    · exact .inr (.inl ⟨x, .inr h, rfl⟩)
                    · exact .inr (.inr (.inl ⟨x, .inr h, rfl⟩))
                    · exact .inr (.inr (.inr h))) a i mid Ha.out hiA.symm hmB.symm)
                  clear hb
                  go_wp2_with (go_at_call 90; refine Hsym.out.mono ?_; rintro e' w3 ⟨rfl, R1, hR1, hS3⟩; have HR1 := Lib.hid hR1; have HS7 := Lib.hid hS3; clear hS3 Hsym hR1)
                  go_meet
                  exact ⟨R1, HR1.out, HS7.out⟩
                · have hb : ¬ (a < i ∧ i < mid) := of_decide_eq_false Hbb.out.symm
                  have hz : A1.length = 0 ∨ B1.length = 0 := by omega
                  have HR1 := Lib.hid (sortOf_cat PA1.out PB1.out hz)
                  clear hb hz
                  go_wp2
                  go_meet
                  refine ⟨A1 ++ B1, HR1.out, ?_⟩
                  have h := HS6.out
                  simpa [List.append_assoc, Hid] using h
              as_aux_lemma =>
                obtain ⟨R1, HR1, HS7⟩ := hcut
                clear HS6
                have hR1l : a + R1.length = mid := by have := HR1.out.length; rw [List.length_append] at this; omega
                by_cases hb : mid < e ∧ e < b
                · have k1 : decide ((mid : Int) < (e : Int)) = true := decide_eq_true (by omega)
                  have k2 : decide ((e : Int) < (b : Int)) = true := decide_eq_true (by omega)
                  have Hsym := Lib.hid (Hih.out _ (.slice ao N cap) N Rs (pre ++ R1.map Prod.fst) suf A2 B2 htt.2 (by omega) (by omega) (by have h := HS7.out; simpa [List.append_assoc] using h) hN2 PA2.out PB2.out AB2.out (by
                    intro p hp
                    refine Hcs.out p ?_
                    rw [HAc.out, HBc.out]
                    simp only [List.mem_append, List.mem_map] at hp ⊢
                    rcases hp with (((h | ⟨x, h, rfl⟩) | ⟨x, h, rfl⟩) | ⟨x, h, rfl⟩) | h
                    · exact .inl h
                    · rw [HR1.out.mem, List.mem_append] at h
                      rcases h with h | h
                      · exact .inr (.inl ⟨x, .inl h, rfl⟩)
                      · exact .inr (.inr (.inl ⟨x, .inl h, rfl⟩))
                    · exact .inr (.inl ⟨x, .inr h, rfl⟩)
                    · exact .inr (.inr (.inl ⟨x, .inr h, rfl⟩))
                    · exact .inr (.inr (.inr h))) mid e b (by have := Ha.out; simp; omega) hmA2.symm (by omega))
                  go_wp2_with (go_at_call 90; refine Hsym.out.mono ?_; rintro e' w3 ⟨rfl, R2, hR2, hS3⟩; have HR2 := Lib.hid hR2; have HS8 := Lib.hid hS3; clear hS3 Hsym hR2)
                  go_end0
                  refine ⟨rfl, R1 ++ R2, Hparts.out _ _ HR1.out HR2.out, ?_⟩
                  have h := HS8.out
                  simpa [List.append_assoc] using h
                · have hz : A2.length = 0 ∨ B2.length = 0 := by omega
                  have HR2 := Lib.hid (sortOf_cat PA2.out PB2.out hz)
                  by_cases h1 : mid < e
                  · have k1 : decide ((mid : Int) < (e : Int)) = true := decide_eq_true (by omega)
                    have k2 : decide ((e : Int) < (b : Int)) = false := decide_eq_false (by omega)
                    have k3 : decide (e < b) = false := decide_eq_false (by omega)
                    have k4 : decide (mid < e) = true := decide_eq_true (by omega)
                    clear hb hz
                    go_wp2
                    go_end0
                    refine ⟨rfl, R1 ++ (A2 ++ B2), Hparts.out _ _ HR1.out HR2.out, ?_⟩
                    have h := HS7.out
                    simpa [List.append_assoc] using h
                  · have k1 : decide ((mid : Int) < (e : Int)) = false := decide_eq_false (by omega)
                    have k4 : decide (mid < e) = false := decide_eq_false (by omega)
                    clear hb hz
                    go_wp2
                    all_goals
                      go_end0
                      refine ⟨rfl, R1 ++ (A2 ++ B2), Hparts.out _ _ HR1.out HR2.out, ?_⟩
                      have h := HS7.out
                      simpa [List.append_assoc] using h

end Go.Proofs.Ytobkmkdnkdbgeaa
