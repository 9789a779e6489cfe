/- slices.SortStableFunc at huff's parcels: insertion. -/
import Derived.Test.YtobkmkdnkdbgeaaMap
import Derived.Test.YtobkmkdnkdbgeaaSmall
import Derived.Deep.RegionHeld3
import Derived.Deep.LoopGhost
namespace Go.Proofs.Ytobkmkdnkdbgeaa
open Go.RowKit Go.Hal
set_option linter.unusedVariables false
set_option linter.unusedSimpArgs false

/-- A parcel: what it costs, and where its symbols lie. -/
structure Par where
  cost : Int
  b : Nat
  off : Nat
  n : Nat
  cap : Nat

def Par.v (p : Par) : Value := .slice (some ⟨p.b, p.off, none⟩) p.n p.cap
def parC (ps : List Par) : List Value := ps.flatMap fun p => [.int .i64 p.cost, p.v]
theorem parC_length (ps : List Par) : (parC ps).length = ps.length * 2 := by
  induction ps with
  | nil => rfl
  | cons k r ih => simp only [parC, List.flatMap_cons, List.length_append, List.length_cons, List.length_nil] at *; omega
theorem parC_append (a b : List Par) : parC (a ++ b) = parC a ++ parC b := by simp [parC]
theorem parC_get (ps : List Par) : ∀ s (h : s < ps.length), (parC ps)[s * 2]? = some (.int .i64 ps[s].cost) ∧ (parC ps)[s * 2 + 1]? = some ps[s].v := by
  induction ps with
  | nil => intro s h; simp at h
  | cons k r ih =>
    intro s h
    cases s with
    | zero => simp [parC]
    | succ s =>
      have := ih s (by simpa using h)
      simp only [parC, List.flatMap_cons, List.getElem_cons_succ] at *
      rw [show (s + 1) * 2 = s * 2 + 2 by omega, show s * 2 + 2 + 1 = s * 2 + 1 + 2 by omega]
      exact this
theorem parC_get' {ps : List Par} {s : Nat} {p : Par} (h : ps[s]? = some p) : (parC ps)[s * 2]? = some (.int .i64 p.cost) ∧ (parC ps)[s * 2 + 1]? = some (.slice (some ⟨p.b, p.off, none⟩) p.n p.cap) := by
  obtain ⟨h1, h2⟩ := List.getElem?_eq_some_iff.1 h
  have := parC_get ps s h1
  rw [h2] at this
  exact this
theorem parC_set (ps : List Par) (s : Nat) (p : Par) (h : s < ps.length) : ((parC ps).set (s * 2) (.int .i64 p.cost)).set (s * 2 + 1) p.v = parC (ps.set s p) := by
  induction ps generalizing s with
  | nil => simp at h
  | cons x r ih =>
    cases s with
    | zero => simp [parC]
    | succ s =>
      have := ih s (by simpa using h)
      simp only [parC, List.flatMap_cons, List.set_cons_succ] at *
      rw [show (s + 1) * 2 = s * 2 + 1 + 1 by omega, ← this]
      simp
theorem parC_one (ps : List Par) : ∀ u ∈ parC ps, u.oneCell' = true := by
  intro u hu
  obtain ⟨p, -, h⟩ := List.mem_flatMap.1 hu
  simp only [List.mem_cons, List.not_mem_nil, or_false] at h
  rcases h with rfl | rfl <;> rfl

set_option maxHeartbeats 400000 in
theorem cmp1_any (a b : Int) (u v : Value) (w : World) (ha : 0 ≤ a) (ha2 : a ≤ 1152921504606846976) (hb : 0 ≤ b) (hb2 : b ≤ 1152921504606846976) :
    Calls Try.prog 49 #[.agg #[.int .i64 a, u], .agg #[.int .i64 b, v]] w fun e w' => e = .returned (.int .i64 (a - b)) ∧ Mods (fun _ => False) w w' := by
  go_enter Try.func49, Try.ntmps49
  go_wp2
  go_ret
  exact ⟨rfl, ((Mods.refl _ _).alloc _).alloc _⟩

set_option maxHeartbeats 400000 in
theorem cmp2_any (a b : Int) (u v : Value) (w : World) (ha : 0 ≤ a) (ha2 : a ≤ 1152921504606846976) (hb : 0 ≤ b) (hb2 : b ≤ 1152921504606846976) :
    Calls Try.prog 53 #[.agg #[.int .i64 a, u], .agg #[.int .i64 b, v]] w fun e w' => e = .returned (.int .i64 (a - b)) ∧ Mods (fun _ => False) w w' := by
  go_enter Try.func53, Try.ntmps53
  go_wp2
  go_ret
  exact ⟨rfl, ((Mods.refl _ _).alloc _).alloc _⟩

/-- A parcel goes to the left, past all that cost more. -/
def insR (x : Par) (l : List Par) : List Par := (l.reverse.dropWhile (fun y => decide (x.cost < y.cost))).reverse ++ x :: (l.reverse.takeWhile (fun y => decide (x.cost < y.cost))).reverse
/-- The parcels in the order of their costs; equal ones stay in their order. -/
def sortP (l : List Par) : List Par := l.foldl (fun acc x => insR x acc) []
theorem insR_length (x : Par) (l : List Par) : (insR x l).length = l.length + 1 := by
  unfold insR
  have h := congrArg List.length (List.takeWhile_append_dropWhile (p := fun y => decide (x.cost < y.cost)) (l := l.reverse))
  simp only [List.length_append, List.length_reverse, List.length_cons] at h ⊢
  omega
theorem sortP_snoc (l : List Par) (x : Par) : sortP (l ++ [x]) = insR x (sortP l) := by simp [sortP]
theorem sortP_length (l : List Par) : (sortP l).length = l.length := by
  unfold sortP
  suffices h : ∀ (l acc : List Par), (l.foldl (fun acc x => insR x acc) acc).length = acc.length + l.length by simpa using h l []
  intro l
  induction l with
  | nil => simp
  | cons y r ih => intro acc; simp only [List.foldl_cons, ih, insR_length, List.length_cons]; omega
/-- What the inner loop comes to. -/
theorem insR_of (x : Par) (l1 l2 : List Par) (h2 : ∀ y ∈ l2, x.cost < y.cost) (h1 : l1 = [] ∨ ∃ l y, l1 = l ++ [y] ∧ ¬ x.cost < y.cost) : insR x (l1 ++ l2) = l1 ++ x :: l2 := by
  unfold insR
  have e : ∀ y ∈ l2.reverse, decide (x.cost < y.cost) = true := fun y hy => decide_eq_true (h2 y (by simpa using hy))
  rw [List.reverse_append, List.dropWhile_append_of_pos e, List.takeWhile_append_of_pos e]
  rcases h1 with rfl | ⟨l, y, rfl, hy⟩
  · simp
  · simp [List.takeWhile_cons, hy]

theorem mem_insR (x y : Par) (l : List Par) : y ∈ insR x l ↔ y = x ∨ y ∈ l := by
  unfold insR
  have h : y ∈ l ↔ y ∈ (l.reverse.takeWhile (fun y => decide (x.cost < y.cost))) ∨ y ∈ (l.reverse.dropWhile (fun y => decide (x.cost < y.cost))) := by
    rw [← List.mem_append, List.takeWhile_append_dropWhile, List.mem_reverse]
  simp only [List.mem_append, List.mem_cons, List.mem_reverse, h]
  constructor
  · rintro (h | h | h)
    · exact .inr (.inr h)
    · exact .inl h
    · exact .inr (.inl h)
  · rintro (h | h | h)
    · exact .inr (.inl h)
    · exact .inr (.inr h)
    · exact .inl h
theorem mem_sortP (y : Par) (l : List Par) : y ∈ sortP l ↔ y ∈ l := by
  unfold sortP
  suffices h : ∀ (l acc : List Par), y ∈ l.foldl (fun acc x => insR x acc) acc ↔ y ∈ acc ∨ y ∈ l by simpa using h l []
  intro l
  induction l with
  | nil => simp
  | cons z r ih =>
    intro acc
    simp only [List.foldl_cons, ih, mem_insR, List.mem_cons]
    constructor
    · rintro ((h | h) | h)
      · exact .inr (.inl h)
      · exact .inl h
      · exact .inr (.inr h)
    · rintro (h | h | h)
      · exact .inl (.inr h)
      · exact .inl (.inl h)
      · exact .inr h

theorem mid_get (pre l1 l2 suf : List Par) (x y : Par) : (pre ++ ((l1 ++ [y]) ++ x :: l2) ++ suf)[pre.length + l1.length]? = some y ∧ (pre ++ ((l1 ++ [y]) ++ x :: l2) ++ suf)[pre.length + l1.length + 1]? = some x := by
  constructor
  · rw [List.append_assoc, List.getElem?_append_right (by omega)]
    simp
  · rw [List.append_assoc, List.getElem?_append_right (by omega)]
    have e : pre.length + l1.length + 1 - pre.length = l1.length + 1 := by omega
    simp [e]
theorem mid_set (pre l1 l2 suf : List Par) (x y : Par) : ((pre ++ ((l1 ++ [y]) ++ x :: l2) ++ suf).set (pre.length + l1.length + 1) y).set (pre.length + l1.length) x = pre ++ (l1 ++ x :: y :: l2) ++ suf := by
  rw [List.append_assoc, List.set_append_right _ _ (by omega), List.set_append_right _ _ (by omega), List.append_assoc pre]
  congr 1
  have e : pre.length + l1.length + 1 - pre.length = l1.length + 1 := by omega
  have e2 : pre.length + l1.length - pre.length = l1.length := by omega
  rw [e, e2]
  simp [List.append_assoc]

theorem vi3 {a b : Int} (h : a = b) : Value.int .i64 a = .int .i64 b := by rw [h]

set_option maxRecDepth 100000 in
set_option maxHeartbeats 4000000 in
theorem insertion_1 {w : World} {v : Value} {N : Nat} {Rs : List Res} (pre seg suf : List Par)
    (hS : Sat w (sl 92 2 N v (parC (pre ++ seg ++ suf)) :: Rs)) (hN : N = (pre ++ seg ++ suf).length) (hN2 : N ≤ 1048576) (hc : ∀ p ∈ pre ++ seg ++ suf, 0 ≤ p.cost ∧ p.cost ≤ 1152921504606846976) (a b : Nat) (ha : a = pre.length) (hb : b = pre.length + seg.length) :
    Calls Try.prog 89 #[v, .int .i64 a, .int .i64 b, .func (.func 49) #[] #[]] w fun e w' => e = .returned (.tuple #[]) ∧ Sat w' (sl 92 2 N v (parC (pre ++ sortP seg ++ suf)) :: Rs) := by
  have HN := Lib.hid hN
  have Hc := Lib.hid hc
  have Ha := Lib.hid ha
  have Hb := Lib.hid hb
  clear hc hN
  have hbN : b ≤ N := by rw [HN.out, hb]; simp
  have haN : a ≤ b := by omega
  have hs0 := hS
  obtain ⟨F, ao, cap, rfl, -, -, -, -⟩ := hs0.first
  clear hs0
  clear ha hb
  · go_enter Try.func89, Try.ntmps89
    go_wp2
    go_loopw [8] (fun i wr => ∃ m : Nat, 1 ≤ m ∧ (m ≤ seg.length ∨ m = 1) ∧ i = .int .i64 ((a : Int) + (m : Nat)) ∧ Sat wr (sl 92 2 N (.slice ao N cap) (parC (pre ++ (sortP (seg.take m) ++ seg.drop m) ++ suf)) :: Rs)) (fun i _ => b + 1 - (intOf i).toNat)
    case atStart =>
      refine ⟨1, by omega, by omega, vi3 (by simp), ?_⟩
      have e : sortP (seg.take 1) ++ seg.drop 1 = seg := by
        cases seg with
        | nil => rfl
        | cons y r => simp [sortP, insR]
      rw [e]; exact hS
    case round =>
      obtain ⟨m, hm1, hm2, rfl, hS1⟩ := hrel
      by_cases hlt : m < seg.length
      · have hab : a + m < b := by rw [Ha.out, Hb.out]; omega
        have hd0 : decide ((a : Int) + (m : Int) < (b : Int)) = true := decide_eq_true (by omega)
        go_wp2
        obtain ⟨x, hx⟩ : ∃ x, seg[m]? = some x := ⟨_, List.getElem?_eq_getElem hlt⟩
        have hdrop : seg.drop m = x :: seg.drop (m + 1) := by
          rw [List.drop_eq_getElem_cons hlt]
          rw [List.getElem?_eq_getElem hlt] at hx
          cases hx; rfl
        have htake : seg.take (m + 1) = seg.take m ++ [x] := by
          rw [List.take_succ_eq_append_getElem hlt]
          rw [List.getElem?_eq_getElem hlt] at hx
          cases hx; rfl
        have hxc : 0 ≤ x.cost ∧ x.cost ≤ 1152921504606846976 := Hc.out x (by simp [List.mem_of_getElem? hx])
        obtain ⟨hxc0, hxc1⟩ := hxc
        rw [hdrop] at hS1
        have Htake := Lib.hid htake
        clear hx hdrop htake
        go_loopw [9] (fun i wq => ∃ (l1 l2 : List Par) (p : Nat), Hid (l1 ++ l2 = sortP (seg.take m)) ∧ Hid (∀ y ∈ l2, x.cost < y.cost) ∧ Hid (p = a + l1.length) ∧ i = .int .i64 (p : Nat) ∧ Sat wq (sl 92 2 N (.slice ao N cap) (parC (pre ++ (l1 ++ x :: l2) ++ (seg.drop (m + 1) ++ suf))) :: Rs)) (fun i _ => (intOf i).toNat)
        case atStart =>
          refine ⟨sortP (seg.take m), [], a + m, by unfold Hid; simp, by unfold Hid; simp, ?_, vi3 (by omega), ?_⟩
          · unfold Hid; rw [sortP_length, List.length_take]; omega
          · simpa [List.append_assoc] using hS1
        case round =>
          obtain ⟨l1, l2, p, Hl, Hgt, Hp, rfl, hS2⟩ := hrel
          rcases List.eq_nil_or_concat l1 with rfl | ⟨l, y, rfl⟩
          · obtain rfl : p = a := by simpa using Hp.out
            have hd : decide (p < p) = false := by simp
            go_wp2_with fail
            go_quiet (fail)
            go_wp2
            refine ⟨⟨m + 1, by omega, by omega, vi3 (by omega), ?_⟩, by simp [intOf]; omega⟩
            rw [Htake.out, sortP_snoc, ← Hl.out, insR_of x [] l2 Hgt.out (.inl rfl)]
            simpa [List.append_assoc] using hS2.drewN nq
          · obtain ⟨q, rfl⟩ : ∃ q, p = q + 1 := ⟨a + l.length, by rw [Hp.out]; simp; omega⟩
            have hq : q = pre.length + l.length := by have := Hp.out; rw [Ha.out] at this; simp at this; omega
            have haq : a ≤ q := by rw [Ha.out]; omega
            have hmid := mid_get pre l l2 (seg.drop (m + 1) ++ suf) x y
            rw [← hq] at hmid
            have hL3 : N = (pre ++ ((l ++ [y]) ++ x :: l2) ++ (seg.drop (m + 1) ++ suf)).length := by
              have h1 := hS2.sl_read.len
              rw [parC_length, List.concat_eq_append] at h1
              omega
            have hNq : q + 1 < N := by
              have h1 := hS2.sl_read.len
              rw [parC_length] at h1
              have h2 := (List.getElem?_eq_some_iff.1 hmid.2).1
              simp at h1 h2 ⊢
              omega
            obtain ⟨b0, off, cap', heq, -, hcm, hb0, hcc, hff⟩ := hS2.sl_cells (by omega)
            simp only [Value.slice.injEq, true_and] at heq
            obtain ⟨rfl, rfl⟩ := heq
            rw [List.concat_eq_append] at hcc hS2 Hl
            obtain ⟨g1, g2⟩ := parC_get' hmid.1
            obtain ⟨g3, g4⟩ := parC_get' hmid.2
            have c1 := hcc _ _ g1
            have c2 := hcc _ _ g2
            have c3 := hcc _ _ g3
            have c4 := hcc _ _ g4
            rw [← Nat.add_assoc] at c2 c4
            have f1 := hff (q * 2)
            have f2 := hff (q * 2 + 1)
            have f3 := hff ((q + 1) * 2)
            have f4 := hff ((q + 1) * 2 + 1)
            rw [← Nat.add_assoc] at f2 f4
            have hyc : 0 ≤ y.cost ∧ y.cost ≤ 1152921504606846976 := Hc.out y (by
              have : y ∈ sortP (seg.take m) := by rw [← Hl.out]; simp
              rw [mem_sortP] at this
              simp [List.mem_of_mem_take this])
            obtain ⟨hyc0, hyc1⟩ := hyc
            have hd : decide ((a : Int) < (q : Int) + 1) = true := decide_eq_true (by omega)
            have hq0 : (0 : Int) ≤ (q : Int) + 1 := by omega
            have hq1 : (q : Int) + 1 < (N : Int) := by omega
            have hq2 : (0 : Int) ≤ (q : Int) := by omega
            have hq3 : (q : Int) < (N : Int) := by omega
            have hw1 : IntKind.i64.wrap (q : Int) = q := i64_id _ (by omega) (by omega)
            have hw2 : IntKind.i64.wrap ((q : Int) + 1 - 1) = q := i64_id _ (by omega) (by omega) |>.trans (by omega)
            have hw3 : IntKind.i64.wrap (x.cost - y.cost) = x.cost - y.cost := i64_id _ (by omega) (by omega)
            have HL3 := Lib.hid hL3
            clear hL3
            have Hq := Lib.hid hq
            have Hcm := Lib.hid hcm
            clear hmid hcc hff g1 g2 g3 g4 hq hcm
            by_cases hlt2 : x.cost < y.cost
            · have hd2 : decide (x.cost - y.cost < 0) = true := decide_eq_true (by omega)
              go_wp2_with fail
              go_region_held3 (fun w' => w'.cell? ⟨b0, off + q * 2, none⟩ = some (.int .i64 y.cost) ∧ w'.cell? ⟨b0, off + q * 2 + 1, none⟩ = some (.slice (some ⟨y.b, y.off, none⟩) y.n y.cap) ∧ w'.cell? ⟨b0, off + (q + 1) * 2, none⟩ = some (.int .i64 x.cost) ∧ w'.cell? ⟨b0, off + (q + 1) * 2 + 1, none⟩ = some (.slice (some ⟨x.b, x.off, none⟩) x.n x.cap))
                (first | go_keep | exact ⟨(hM.cell hb0).trans c1, (hM.cell hb0).trans c2, (hM.cell hb0).trans c3, (hM.cell hb0).trans c4⟩) ((go_at_call 49; refine (cmp1_any _ _ _ _ _ hxc0 hxc1 hyc0 hyc1).mono ?_; rintro e w1 ⟨rfl, hM⟩))
              have hS3 := hS2.drew.keep hM
              have d1 := (hM.cell hb0).trans c1
              have d2 := (hM.cell hb0).trans c2
              have d3 := (hM.cell hb0).trans c3
              have d4 := (hM.cell hb0).trans c4
              have e1 := (hM.frozen hb0).trans f1
              have e2 := (hM.frozen hb0).trans f2
              have e3 := (hM.frozen hb0).trans f3
              have e4 := (hM.frozen hb0).trans f4
              clear hM c1 c2 c3 c4 f1 f2 f3 f4 hS2 hS1 hS
              go_wp2_with fail
              go_region
              have hL3 := HL3.out
              have r1 := (((hS3.sl_set ((q + 1) * 2) (by rw [parC_length, ← hL3]; omega) (.int .i64 y.cost)).sl_set ((q + 1) * 2 + 1) (by rw [List.length_set, parC_length, ← hL3]; omega) (.slice (some ⟨y.b, y.off, none⟩) y.n y.cap)).sl_set (q * 2) (by rw [List.length_set, List.length_set, parC_length, ← hL3]; omega) (.int .i64 x.cost)).sl_set (q * 2 + 1) (by rw [List.length_set, List.length_set, List.length_set, parC_length, ← hL3]; omega) (.slice (some ⟨x.b, x.off, none⟩) x.n x.cap)
              have e5 := parC_set (pre ++ ((l ++ [y]) ++ x :: l2) ++ (seg.drop (m + 1) ++ suf)) (q + 1) y (by rw [← hL3]; exact hNq)
              have e6 := parC_set ((pre ++ ((l ++ [y]) ++ x :: l2) ++ (seg.drop (m + 1) ++ suf)).set (q + 1) y) q x (by rw [List.length_set, ← hL3]; omega)
              rw [← e5] at e6
              have e7 := mid_set pre l l2 (seg.drop (m + 1) ++ suf) x y
              rw [← Hq.out] at e7
              rw [e7] at e6
              unfold Par.v at e6
              rw [e6] at r1
              clear hL3 e5 e6 e7
              go_wp2
              refine ⟨⟨l, y :: l2, q, ?_, ?_, ?_, vi3 (by omega), r1.drew⟩, by simp [intOf]⟩
              · unfold Hid; rw [← Hl.out]; simp
              · intro z hz
                rcases List.mem_cons.1 hz with rfl | hz
                · exact hlt2
                · exact Hgt.out z hz
              · have := Hp.out; unfold Hid; simp at this; omega
            · have hd2 : decide (x.cost - y.cost < 0) = false := decide_eq_false (by omega)
              go_wp2_with fail
              go_region_held3 (fun w' => w'.cell? ⟨b0, off + q * 2, none⟩ = some (.int .i64 y.cost) ∧ w'.cell? ⟨b0, off + q * 2 + 1, none⟩ = some (.slice (some ⟨y.b, y.off, none⟩) y.n y.cap) ∧ w'.cell? ⟨b0, off + (q + 1) * 2, none⟩ = some (.int .i64 x.cost) ∧ w'.cell? ⟨b0, off + (q + 1) * 2 + 1, none⟩ = some (.slice (some ⟨x.b, x.off, none⟩) x.n x.cap))
                (first | go_keep | exact ⟨(hM.cell hb0).trans c1, (hM.cell hb0).trans c2, (hM.cell hb0).trans c3, (hM.cell hb0).trans c4⟩) ((go_at_call 49; refine (cmp1_any _ _ _ _ _ hxc0 hxc1 hyc0 hyc1).mono ?_; rintro e w1 ⟨rfl, hM⟩))
              have hS3 := hS2.drew.keep hM
              clear hM c1 c2 c3 c4 f1 f2 f3 f4 hS2 hS1 hS
              go_wp2
              refine ⟨⟨m + 1, by omega, by omega, vi3 (by omega), ?_⟩, by simp [intOf]; omega⟩
              rw [Htake.out, sortP_snoc, ← Hl.out, insR_of x (l ++ [y]) l2 Hgt.out (.inr ⟨l, y, rfl, by omega⟩)]
              simpa [List.append_assoc] using hS3
      · have hb2 : b ≤ a + m := by rw [Ha.out, Hb.out]; omega
        have hd0 : decide ((a : Int) + (m : Int) < (b : Int)) = false := decide_eq_false (by omega)
        go_wp2
        go_end0
        refine ⟨rfl, ?_⟩
        have e : sortP (seg.take m) ++ seg.drop m = sortP seg := by
          rw [List.take_of_length_le (by omega), List.drop_of_length_le (by omega), List.append_nil]
        rw [e] at hS1
        exact hS1


set_option maxRecDepth 100000 in
set_option maxHeartbeats 1000000 in
theorem stable_1 {w : World} {v : Value} {Rs : List Res} (ps : List Par) (hS : Sat w (sl 92 2 ps.length v (parC ps) :: Rs)) (hN : ps.length ≤ 19) (hc : ∀ p ∈ ps, 0 ≤ p.cost ∧ p.cost ≤ 1152921504606846976) :
    Calls Try.prog 48 #[v, .func (.func 49) #[] #[]] w fun e w' => e = .returned (.tuple #[]) ∧ Sat w' (sl 92 2 ps.length v (parC (sortP ps)) :: Rs) := by
  have key : Calls Try.prog 77 #[v, .int .i64 ps.length, .func (.func 49) #[] #[]] w fun e w' => e = .returned (.tuple #[]) ∧ Sat w' (sl 92 2 ps.length v (parC (sortP ps)) :: Rs) := by
    have hins := insertion_1 (w := w) (v := v) (N := ps.length) (Rs := Rs) [] ps [] (by simpa using hS) (by simp) (by omega) (by simpa using hc) 0 ps.length rfl (by simp)
    simp only [List.nil_append, List.append_nil] at hins
    have Hi := Lib.hid hins
    clear hins hc
    have hd : decide ((20 : Int) ≤ (ps.length : Int)) = false := decide_eq_false (by omega)
    have hd2 : decide ((20 : Int) < (ps.length : Int)) = false := decide_eq_false (by omega)
    go_enter Try.func77, Try.ntmps77
    go_wp2
    go_loopw [7, 8] (fun a b wr => a = .int .i64 0 ∧ b = .int .i64 20 ∧ w = wr) (fun _ _ _ => 0)
    case atStart => exact ⟨rfl, rfl, rfl⟩
    case round =>
      obtain ⟨rfl, rfl, rfl⟩ := hrel
      go_wp2_with (go_at_call 89; refine Hi.out.mono ?_; rintro e w1 ⟨rfl, hS1⟩)
      go_loopw [6, 7, 8] (fun s a b wr => s = .int .i64 20 ∧ Sat wr (sl 92 2 ps.length v (parC (sortP ps)) :: Rs)) (fun _ _ _ _ => 0)
      case atStart => exact ⟨rfl, hS1⟩
      case round =>
        obtain ⟨rfl, hS2⟩ := hrel
        go_wp2
        go_end0
        exact ⟨rfl, hS2⟩
  have Hk := Lib.hid key
  obtain ⟨F, ao, cap, rfl, -, -, -, -⟩ := hS.first
  clear key hc
  go_enter Try.func48, Try.ntmps48
  go_wp2_with (go_at_call 77; refine Hk.out.mono ?_; rintro e w1 ⟨rfl, hS1⟩)
  go_end0
  exact ⟨rfl, hS1⟩

set_option maxRecDepth 100000 in
set_option maxHeartbeats 4000000 in
theorem insertion_2 {w : World} {v : Value} {N : Nat} {Rs : List Res} (pre seg suf : List Par)
    (hS : Sat w (sl 92 2 N v (parC (pre ++ seg ++ suf)) :: Rs)) (hN : N = (pre ++ seg ++ suf).length) (hN2 : N ≤ 1048576) (hc : ∀ p ∈ pre ++ seg ++ suf, 0 ≤ p.cost ∧ p.cost ≤ 1152921504606846976) (a b : Nat) (ha : a = pre.length) (hb : b = pre.length + seg.length) :
    Calls Try.prog 89 #[v, .int .i64 a, .int .i64 b, .func (.func 53) #[] #[]] w fun e w' => e = .returned (.tuple #[]) ∧ Sat w' (sl 92 2 N v (parC (pre ++ sortP seg ++ suf)) :: Rs) := by
  have HN := Lib.hid hN
  have Hc := Lib.hid hc
  have Ha := Lib.hid ha
  have Hb := Lib.hid hb
  clear hc hN
  have hbN : b ≤ N := by rw [HN.out, hb]; simp
  have haN : a ≤ b := by omega
  have hs0 := hS
  obtain ⟨F, ao, cap, rfl, -, -, -, -⟩ := hs0.first
  clear hs0
  clear ha hb
  · go_enter Try.func89, Try.ntmps89
    go_wp2
    go_loopw [8] (fun i wr => ∃ m : Nat, 1 ≤ m ∧ (m ≤ seg.length ∨ m = 1) ∧ i = .int .i64 ((a : Int) + (m : Nat)) ∧ Sat wr (sl 92 2 N (.slice ao N cap) (parC (pre ++ (sortP (seg.take m) ++ seg.drop m) ++ suf)) :: Rs)) (fun i _ => b + 1 - (intOf i).toNat)
    case atStart =>
      refine ⟨1, by omega, by omega, vi3 (by simp), ?_⟩
      have e : sortP (seg.take 1) ++ seg.drop 1 = seg := by
        cases seg with
        | nil => rfl
        | cons y r => simp [sortP, insR]
      rw [e]; exact hS
    case round =>
      obtain ⟨m, hm1, hm2, rfl, hS1⟩ := hrel
      by_cases hlt : m < seg.length
      · have hab : a + m < b := by rw [Ha.out, Hb.out]; omega
        have hd0 : decide ((a : Int) + (m : Int) < (b : Int)) = true := decide_eq_true (by omega)
        go_wp2
        obtain ⟨x, hx⟩ : ∃ x, seg[m]? = some x := ⟨_, List.getElem?_eq_getElem hlt⟩
        have hdrop : seg.drop m = x :: seg.drop (m + 1) := by
          rw [List.drop_eq_getElem_cons hlt]
          rw [List.getElem?_eq_getElem hlt] at hx
          cases hx; rfl
        have htake : seg.take (m + 1) = seg.take m ++ [x] := by
          rw [List.take_succ_eq_append_getElem hlt]
          rw [List.getElem?_eq_getElem hlt] at hx
          cases hx; rfl
        have hxc : 0 ≤ x.cost ∧ x.cost ≤ 1152921504606846976 := Hc.out x (by simp [List.mem_of_getElem? hx])
        obtain ⟨hxc0, hxc1⟩ := hxc
        rw [hdrop] at hS1
        have Htake := Lib.hid htake
        clear hx hdrop htake
        go_loopw [9] (fun i wq => ∃ (l1 l2 : List Par) (p : Nat), Hid (l1 ++ l2 = sortP (seg.take m)) ∧ Hid (∀ y ∈ l2, x.cost < y.cost) ∧ Hid (p = a + l1.length) ∧ i = .int .i64 (p : Nat) ∧ Sat wq (sl 92 2 N (.slice ao N cap) (parC (pre ++ (l1 ++ x :: l2) ++ (seg.drop (m + 1) ++ suf))) :: Rs)) (fun i _ => (intOf i).toNat)
        case atStart =>
          refine ⟨sortP (seg.take m), [], a + m, by unfold Hid; simp, by unfold Hid; simp, ?_, vi3 (by omega), ?_⟩
          · unfold Hid; rw [sortP_length, List.length_take]; omega
          · simpa [List.append_assoc] using hS1
        case round =>
          obtain ⟨l1, l2, p, Hl, Hgt, Hp, rfl, hS2⟩ := hrel
          rcases List.eq_nil_or_concat l1 with rfl | ⟨l, y, rfl⟩
          · obtain rfl : p = a := by simpa using Hp.out
            have hd : decide (p < p) = false := by simp
            go_wp2_with fail
            go_quiet (fail)
            go_wp2
            refine ⟨⟨m + 1, by omega, by omega, vi3 (by omega), ?_⟩, by simp [intOf]; omega⟩
            rw [Htake.out, sortP_snoc, ← Hl.out, insR_of x [] l2 Hgt.out (.inl rfl)]
            simpa [List.append_assoc] using hS2.drewN nq
          · obtain ⟨q, rfl⟩ : ∃ q, p = q + 1 := ⟨a + l.length, by rw [Hp.out]; simp; omega⟩
            have hq : q = pre.length + l.length := by have := Hp.out; rw [Ha.out] at this; simp at this; omega
            have haq : a ≤ q := by rw [Ha.out]; omega
            have hmid := mid_get pre l l2 (seg.drop (m + 1) ++ suf) x y
            rw [← hq] at hmid
            have hL3 : N = (pre ++ ((l ++ [y]) ++ x :: l2) ++ (seg.drop (m + 1) ++ suf)).length := by
              have h1 := hS2.sl_read.len
              rw [parC_length, List.concat_eq_append] at h1
              omega
            have hNq : q + 1 < N := by
              have h1 := hS2.sl_read.len
              rw [parC_length] at h1
              have h2 := (List.getElem?_eq_some_iff.1 hmid.2).1
              simp at h1 h2 ⊢
              omega
            obtain ⟨b0, off, cap', heq, -, hcm, hb0, hcc, hff⟩ := hS2.sl_cells (by omega)
            simp only [Value.slice.injEq, true_and] at heq
            obtain ⟨rfl, rfl⟩ := heq
            rw [List.concat_eq_append] at hcc hS2 Hl
            obtain ⟨g1, g2⟩ := parC_get' hmid.1
            obtain ⟨g3, g4⟩ := parC_get' hmid.2
            have c1 := hcc _ _ g1
            have c2 := hcc _ _ g2
            have c3 := hcc _ _ g3
            have c4 := hcc _ _ g4
            rw [← Nat.add_assoc] at c2 c4
            have f1 := hff (q * 2)
            have f2 := hff (q * 2 + 1)
            have f3 := hff ((q + 1) * 2)
            have f4 := hff ((q + 1) * 2 + 1)
            rw [← Nat.add_assoc] at f2 f4
            have hyc : 0 ≤ y.cost ∧ y.cost ≤ 1152921504606846976 := Hc.out y (by
              have : y ∈ sortP (seg.take m) := by rw [← Hl.out]; simp
              rw [mem_sortP] at this
              simp [List.mem_of_mem_take this])
            obtain ⟨hyc0, hyc1⟩ := hyc
            have hd : decide ((a : Int) < (q : Int) + 1) = true := decide_eq_true (by omega)
            have hq0 : (0 : Int) ≤ (q : Int) + 1 := by omega
            have hq1 : (q : Int) + 1 < (N : Int) := by omega
            have hq2 : (0 : Int) ≤ (q : Int) := by omega
            have hq3 : (q : Int) < (N : Int) := by omega
            have hw1 : IntKind.i64.wrap (q : Int) = q := i64_id _ (by omega) (by omega)
            have hw2 : IntKind.i64.wrap ((q : Int) + 1 - 1) = q := i64_id _ (by omega) (by omega) |>.trans (by omega)
            have hw3 : IntKind.i64.wrap (x.cost - y.cost) = x.cost - y.cost := i64_id _ (by omega) (by omega)
            have HL3 := Lib.hid hL3
            clear hL3
            have Hq := Lib.hid hq
            have Hcm := Lib.hid hcm
            clear hmid hcc hff g1 g2 g3 g4 hq hcm
            by_cases hlt2 : x.cost < y.cost
            · have hd2 : decide (x.cost - y.cost < 0) = true := decide_eq_true (by omega)
              go_wp2_with fail
              go_region_held3 (fun w' => w'.cell? ⟨b0, off + q * 2, none⟩ = some (.int .i64 y.cost) ∧ w'.cell? ⟨b0, off + q * 2 + 1, none⟩ = some (.slice (some ⟨y.b, y.off, none⟩) y.n y.cap) ∧ w'.cell? ⟨b0, off + (q + 1) * 2, none⟩ = some (.int .i64 x.cost) ∧ w'.cell? ⟨b0, off + (q + 1) * 2 + 1, none⟩ = some (.slice (some ⟨x.b, x.off, none⟩) x.n x.cap))
                (first | go_keep | exact ⟨(hM.cell hb0).trans c1, (hM.cell hb0).trans c2, (hM.cell hb0).trans c3, (hM.cell hb0).trans c4⟩) ((go_at_call 53; refine (cmp2_any _ _ _ _ _ hxc0 hxc1 hyc0 hyc1).mono ?_; rintro e w1 ⟨rfl, hM⟩))
              have hS3 := hS2.drew.keep hM
              have d1 := (hM.cell hb0).trans c1
              have d2 := (hM.cell hb0).trans c2
              have d3 := (hM.cell hb0).trans c3
              have d4 := (hM.cell hb0).trans c4
              have e1 := (hM.frozen hb0).trans f1
              have e2 := (hM.frozen hb0).trans f2
              have e3 := (hM.frozen hb0).trans f3
              have e4 := (hM.frozen hb0).trans f4
              clear hM c1 c2 c3 c4 f1 f2 f3 f4 hS2 hS1 hS
              go_wp2_with fail
              go_region
              have hL3 := HL3.out
              have r1 := (((hS3.sl_set ((q + 1) * 2) (by rw [parC_length, ← hL3]; omega) (.int .i64 y.cost)).sl_set ((q + 1) * 2 + 1) (by rw [List.length_set, parC_length, ← hL3]; omega) (.slice (some ⟨y.b, y.off, none⟩) y.n y.cap)).sl_set (q * 2) (by rw [List.length_set, List.length_set, parC_length, ← hL3]; omega) (.int .i64 x.cost)).sl_set (q * 2 + 1) (by rw [List.length_set, List.length_set, List.length_set, parC_length, ← hL3]; omega) (.slice (some ⟨x.b, x.off, none⟩) x.n x.cap)
              have e5 := parC_set (pre ++ ((l ++ [y]) ++ x :: l2) ++ (seg.drop (m + 1) ++ suf)) (q + 1) y (by rw [← hL3]; exact hNq)
              have e6 := parC_set ((pre ++ ((l ++ [y]) ++ x :: l2) ++ (seg.drop (m + 1) ++ suf)).set (q + 1) y) q x (by rw [List.length_set, ← hL3]; omega)
              rw [← e5] at e6
              have e7 := mid_set pre l l2 (seg.drop (m + 1) ++ suf) x y
              rw [← Hq.out] at e7
              rw [e7] at e6
              unfold Par.v at e6
              rw [e6] at r1
              clear hL3 e5 e6 e7
              go_wp2
              refine ⟨⟨l, y :: l2, q, ?_, ?_, ?_, vi3 (by omega), r1.drew⟩, by simp [intOf]⟩
              · unfold Hid; rw [← Hl.out]; simp
              · intro z hz
                rcases List.mem_cons.1 hz with rfl | hz
                · exact hlt2
                · exact Hgt.out z hz
              · have := Hp.out; unfold Hid; simp at this; omega
            · have hd2 : decide (x.cost - y.cost < 0) = false := decide_eq_false (by omega)
              go_wp2_with fail
              go_region_held3 (fun w' => w'.cell? ⟨b0, off + q * 2, none⟩ = some (.int .i64 y.cost) ∧ w'.cell? ⟨b0, off + q * 2 + 1, none⟩ = some (.slice (some ⟨y.b, y.off, none⟩) y.n y.cap) ∧ w'.cell? ⟨b0, off + (q + 1) * 2, none⟩ = some (.int .i64 x.cost) ∧ w'.cell? ⟨b0, off + (q + 1) * 2 + 1, none⟩ = some (.slice (some ⟨x.b, x.off, none⟩) x.n x.cap))
                (first | go_keep | exact ⟨(hM.cell hb0).trans c1, (hM.cell hb0).trans c2, (hM.cell hb0).trans c3, (hM.cell hb0).trans c4⟩) ((go_at_call 53; refine (cmp2_any _ _ _ _ _ hxc0 hxc1 hyc0 hyc1).mono ?_; rintro e w1 ⟨rfl, hM⟩))
              have hS3 := hS2.drew.keep hM
              clear hM c1 c2 c3 c4 f1 f2 f3 f4 hS2 hS1 hS
              go_wp2
              refine ⟨⟨m + 1, by omega, by omega, vi3 (by omega), ?_⟩, by simp [intOf]; omega⟩
              rw [Htake.out, sortP_snoc, ← Hl.out, insR_of x (l ++ [y]) l2 Hgt.out (.inr ⟨l, y, rfl, by omega⟩)]
              simpa [List.append_assoc] using hS3
      · have hb2 : b ≤ a + m := by rw [Ha.out, Hb.out]; omega
        have hd0 : decide ((a : Int) + (m : Int) < (b : Int)) = false := decide_eq_false (by omega)
        go_wp2
        go_end0
        refine ⟨rfl, ?_⟩
        have e : sortP (seg.take m) ++ seg.drop m = sortP seg := by
          rw [List.take_of_length_le (by omega), List.drop_of_length_le (by omega), List.append_nil]
        rw [e] at hS1
        exact hS1


set_option maxRecDepth 100000 in
set_option maxHeartbeats 1000000 in
theorem stable_2 {w : World} {v : Value} {Rs : List Res} (ps : List Par) (hS : Sat w (sl 92 2 ps.length v (parC ps) :: Rs)) (hN : ps.length ≤ 19) (hc : ∀ p ∈ ps, 0 ≤ p.cost ∧ p.cost ≤ 1152921504606846976) :
    Calls Try.prog 48 #[v, .func (.func 53) #[] #[]] w fun e w' => e = .returned (.tuple #[]) ∧ Sat w' (sl 92 2 ps.length v (parC (sortP ps)) :: Rs) := by
  have key : Calls Try.prog 77 #[v, .int .i64 ps.length, .func (.func 53) #[] #[]] w fun e w' => e = .returned (.tuple #[]) ∧ Sat w' (sl 92 2 ps.length v (parC (sortP ps)) :: Rs) := by
    have hins := insertion_2 (w := w) (v := v) (N := ps.length) (Rs := Rs) [] ps [] (by simpa using hS) (by simp) (by omega) (by simpa using hc) 0 ps.length rfl (by simp)
    simp only [List.nil_append, List.append_nil] at hins
    have Hi := Lib.hid hins
    clear hins hc
    have hd : decide ((20 : Int) ≤ (ps.length : Int)) = false := decide_eq_false (by omega)
    have hd2 : decide ((20 : Int) < (ps.length : Int)) = false := decide_eq_false (by omega)
    go_enter Try.func77, Try.ntmps77
    go_wp2
    go_loopw [7, 8] (fun a b wr => a = .int .i64 0 ∧ b = .int .i64 20 ∧ w = wr) (fun _ _ _ => 0)
    case atStart => exact ⟨rfl, rfl, rfl⟩
    case round =>
      obtain ⟨rfl, rfl, rfl⟩ := hrel
      go_wp2_with (go_at_call 89; refine Hi.out.mono ?_; rintro e w1 ⟨rfl, hS1⟩)
      go_loopw [6, 7, 8] (fun s a b wr => s = .int .i64 20 ∧ Sat wr (sl 92 2 ps.length v (parC (sortP ps)) :: Rs)) (fun _ _ _ _ => 0)
      case atStart => exact ⟨rfl, hS1⟩
      case round =>
        obtain ⟨rfl, hS2⟩ := hrel
        go_wp2
        go_end0
        exact ⟨rfl, hS2⟩
  have Hk := Lib.hid key
  obtain ⟨F, ao, cap, rfl, -, -, -, -⟩ := hS.first
  clear key hc
  go_enter Try.func48, Try.ntmps48
  go_wp2_with (go_at_call 77; refine Hk.out.mono ?_; rintro e w1 ⟨rfl, hS1⟩)
  go_end0
  exact ⟨rfl, hS1⟩

end Go.Proofs.Ytobkmkdnkdbgeaa
