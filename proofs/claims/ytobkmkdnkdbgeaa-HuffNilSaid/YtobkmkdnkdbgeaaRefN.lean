/- The reference of layer 5: begins and Next; of layer 1: Bits. -/
import Derived.Test.YtobkmkdnkdbgeaaBack
import Derived.OwnWalk
namespace Go.Proofs.Ytobkmkdnkdbgeaa
open Go.RowKit Go.Hal
set_option linter.unusedVariables false
set_option linter.unusedSimpArgs false

/-- a is the beginning of b. -/
def preB (a b : List Bool) : Bool := decide (b.take a.length = a)
/-- The bits of a slice that is read. -/
theorem bits_cell {w : World} {v : Value} {l : List Bool} (h : IntsR w v (bitsI l)) : ∃ ao cap, v = .slice ao l.length cap ∧ l.length ≤ cap ∧ cap ≤ 9223372036854775807 ∧
    ∀ k (hk : k < l.length), ∃ b o, ao = some ⟨b, o, none⟩ ∧ w.cell? ⟨b, o + k, none⟩ = some (.int .i64 (l[k].toNat : Nat)) := by
  obtain ⟨ao, cap, rfl, h1, h2, hc⟩ := h.cell
  have hl : (bitsI l).length = l.length := by simp [bitsI]
  refine ⟨ao, cap, by rw [hl], by omega, h2, fun k hk => ?_⟩
  obtain ⟨b, o, e, -, hb⟩ := hc k (by omega)
  exact ⟨b, o, e, by rw [hb]; simp [bitsI, bitI]⟩

set_option maxRecDepth 100000 in
set_option maxHeartbeats 1000000 in
theorem begins_any (va vb : Value) (a b : List Bool) (w : World) (ha : IntsR w va (bitsI a)) (hb : IntsR w vb (bitsI b)) :
    Calls Try.prog 59 #[va, vb] w fun e w' => e = .returned (.bool (preB a b)) ∧ ∃ n, w' = w.drewN n := by
  obtain ⟨ao, cap, rfl, a1, a2, hca⟩ := bits_cell ha
  obtain ⟨bo, cbp, rfl, b1, b2, hcb⟩ := bits_cell hb
  have Ha := Lib.hid hca
  have Hb := Lib.hid hcb
  clear ha hb hca hcb
  by_cases hl : b.length < a.length
  · have he : preB a b = false := by
      unfold preB
      refine decide_eq_false fun e => ?_
      have := congrArg List.length e
      rw [List.length_take] at this
      omega
    have hd : decide (b.length < a.length) = true := decide_eq_true hl
    have He := Lib.hid he
    clear he
    go_enter Try.func59, Try.ntmps59
    go_wp2
    go_ret
    exact ⟨ret_bool He.out.symm, 0, rfl⟩
  · have hd : decide (b.length < a.length) = false := decide_eq_false hl
    go_enter Try.func59, Try.ntmps59
    go_wp2
    go_loopw [13] (fun i wr => ∃ k n : Nat, k ≤ a.length ∧ i = .int .i64 k ∧ Hid (b.take k = a.take k) ∧ wr = w.drewN n) (fun i _ => a.length - (intOf i).toNat)
    case atStart => exact ⟨0, 0, by omega, rfl, by unfold Hid; simp, rfl⟩
    case round =>
      obtain ⟨k, n, hk, rfl, H, rfl⟩ := hrel
      by_cases hlt : k < a.length
      · have hd2 : decide (k < a.length) = true := decide_eq_true hlt
        have hltb : k < b.length := by omega
        obtain ⟨ba, oa, rfl, hc1⟩ := Ha.out k hlt
        obtain ⟨bb, ob, rfl, hc2⟩ := Hb.out k hltb
        obtain ⟨x, Hx⟩ : ∃ x, Hid (x = a[k]) := ⟨_, Lib.hid rfl⟩
        obtain ⟨y, Hy⟩ : ∃ y, Hid (y = b[k]) := ⟨_, Lib.hid rfl⟩
        rw [← Hx.out] at hc1
        rw [← Hy.out] at hc2
        have hk1 : (k : Int) < (a.length : Int) := by omega
        have hk2 : (k : Int) < (b.length : Int) := by omega
        by_cases hxy : x = y
        · have hne : (((x.toNat : Nat) : Int) != ((y.toNat : Nat) : Int)) = false := by rw [hxy]; simp
          have H2 : Hid (b.take (k + 1) = a.take (k + 1)) := by
            unfold Hid
            rw [List.take_succ_eq_append_getElem hlt, List.take_succ_eq_append_getElem hltb, H.out, ← Hx.out, ← Hy.out, hxy]
          clear hxy
          go_wp2
          go_quiet (fail)
          go_wp2
          go_roundw
          case rel => exact ⟨k + 1, _, by omega, by go_num, H2, rfl⟩
          case measure => simp [intOf]; omega
        · have hne : (((x.toNat : Nat) : Int) != ((y.toNat : Nat) : Int)) = true := by cases x <;> cases y <;> first | rfl | exact absurd rfl hxy
          have he : preB a b = false := by
            unfold preB
            refine decide_eq_false fun e => ?_
            have h1 := congrArg (fun l => l[k]?) e
            rw [List.getElem?_take, if_pos hlt, List.getElem?_eq_getElem hlt, List.getElem?_eq_getElem hltb, Option.some.injEq, ← Hx.out, ← Hy.out] at h1
            exact hxy h1.symm
          have He := Lib.hid he
          clear hxy he
          go_wp2
          go_quiet (fail)
          go_wp2
          go_ret
          exact ⟨ret_bool He.out.symm, _, World.drewN_drewN ..⟩
      · obtain rfl : k = a.length := by omega
        have hd2 : decide (a.length < a.length) = false := by simp
        go_wp2
        go_ret
        refine ⟨ret_bool ?_, n, rfl⟩
        unfold preB
        rw [H.out, List.take_length]
        simp

theorem preB_hits {L : List Nat} {t : Nat} {l : List Bool} : preB (wbits L t) l = decide (hits L l t) := by
  unfold preB hits
  congr 1
  rw [wbits_length, eq_iff_iff]
  constructor
  · intro e
    have h1 := congrArg List.length e
    rw [List.length_take, wbits_length] at h1
    refine ⟨by omega, ?_⟩
    rw [e, num_wbits]
  · rintro ⟨h1, h2⟩
    refine num_inj _ _ (by rw [List.length_take, wbits_length]; omega) ?_
    rw [h2, num_wbits]
theorem preB_may {L : List Nat} {t : Nat} {l : List Bool} (h : ¬ hits L l t) : preB l (wbits L t) = decide (mayHit L l t) := by
  unfold preB mayHit
  congr 1
  rw [eq_iff_iff]
  constructor
  · intro e
    have h1 := congrArg List.length e
    rw [List.length_take, wbits_length] at h1
    have h2 := congrArg num e
    rw [num_take, num_wbits] at h2
    refine ⟨?_, h2⟩
    rcases Nat.lt_or_ge l.length (wd L t).1 with h3 | h3
    · exact h3
    · exfalso
      refine h ⟨by omega, ?_⟩
      have h4 : (wd L t).1 = l.length := by omega
      rw [h4, List.take_length, ← h2, Nat.mod_eq_of_lt]
      rw [← h4]; exact wd_lt t
  · rintro ⟨h1, h2⟩
    refine num_inj _ _ (by rw [List.length_take, wbits_length]; omega) ?_
    rw [num_take, num_wbits, h2]


theorem find_at {α : Type} {f : α → Bool} : ∀ {l : List α} {k : Nat} {x : α}, l[k]? = some x → (l.take k).find? f = none → (f x = true → l.find? f = some x) ∧ (f x = false → (l.take (k + 1)).find? f = none) := by
  intro l
  induction l with
  | nil => intro k x h; simp at h
  | cons y r ih =>
    intro k x h hn
    cases k with
    | zero =>
      simp at h; subst h
      refine ⟨fun hf => by simp [hf], fun hf => by simp [hf]⟩
    | succ k =>
      simp only [List.take_succ_cons, List.find?_cons] at hn
      cases hy : f y with
      | true => rw [hy] at hn; simp at hn
      | false =>
        rw [hy] at hn
        obtain ⟨h1, h2⟩ := ih (k := k) (x := x) (by simpa using h) hn
        refine ⟨fun hf => by simp only [List.find?_cons, hy]; exact h1 hf, fun hf => by simp only [List.take_succ_cons, List.find?_cons, hy]; exact h2 hf⟩

theorem dec_hit {L : List Nat} {l : List Bool} {t : Nat} (h : (ord L 15).find? (fun t => decide (hits L l t)) = some t) : decL L l = (t, 0, (wd L t).1) := by
  unfold decL; rw [h]
theorem dec_short {L : List Nat} {l : List Bool} (h : (ord L 15).find? (fun t => decide (hits L l t)) = none) (h2 : l = [] ∨ ∃ t ∈ ord L 15, mayHit L l t) : decL L l = (0, 2, 0) := by
  unfold decL; rw [h]; simp only; rw [if_pos h2]
theorem dec_none {L : List Nat} {l : List Bool} (h : (ord L 15).find? (fun t => decide (hits L l t)) = none) (h2 : ¬ (l = [] ∨ ∃ t ∈ ord L 15, mayHit L l t)) : decL L l = (0, 6, 0) := by
  unfold decL; rw [h]; simp only; rw [if_neg h2]
theorem ret3 {a a' b b' c c' : Int} (h1 : a = a') (h2 : b = b') (h3 : c = c') : Ending.returned (.tuple #[.int .i64 a, .int .i64 b, .int .i64 c]) = .returned (.tuple #[.int .i64 a', .int .i64 b', .int .i64 c']) := by rw [h1, h2, h3]

set_option maxRecDepth 100000 in
set_option maxHeartbeats 2000000 in
theorem refNext_any {w : World} {Rs : List Res} {out : Value} {L : List Nat} {T : List (Nat × Value)} {P : List Ent} (hS : Sat w (sl 34 2 T.length out (wordC T) :: pool P :: Rs)) (hT : T.map (·.1) = ord L 15) (hTP : ∀ x ∈ T, entW L x ∈ P)
    (hn : T.length ≤ 288) (u : Value) (l : List Bool) (hu : ∀ w', Sat w' Rs → IntsR w' u (bitsI l)) :
    Calls Try.prog 27 #[out, u] w fun e w' => e = .returned (.tuple #[.int .i64 ((decL L l).1 : Nat), .int .i64 ((decL L l).2.2 : Nat), .int .i64 ((decL L l).2.1 : Nat)]) ∧ Sat w' (sl 34 2 T.length out (wordC T) :: pool P :: Rs) := by
  obtain ⟨aou, capu, rfl, u1, u2, -⟩ := bits_cell (hu w hS.tail.tail)
  obtain ⟨F5, ao5, cap5, rfl, -, k5, -, -⟩ := hS.first
  unfold maxLen at k5
  have HT := Lib.hid hT
  have HTP := Lib.hid hTP
  have Hu := Lib.hid hu
  clear hT hTP hu
  go_enter Try.func27, Try.ntmps27
  go_wp2
  go_loopw [13] (fun i wr => ∃ k : Nat, k ≤ T.length ∧ i = .int .i64 k ∧ Hid (((ord L 15).take k).find? (fun t => decide (hits L l t)) = none) ∧ Sat wr (sl 34 2 T.length (.slice ao5 T.length cap5) (wordC T) :: pool P :: Rs)) (fun i _ => T.length - (intOf i).toNat)
  case atStart => exact ⟨0, by omega, rfl, by unfold Hid; simp, hS⟩
  case round =>
    obtain ⟨k, hk, rfl, H, hS6⟩ := hrel
    by_cases hlt : k < T.length
    · have hd : decide (k < T.length) = true := decide_eq_true hlt
      obtain ⟨⟨t, bv⟩, hx⟩ : ∃ x, T[k]? = some x := ⟨_, List.getElem?_eq_getElem hlt⟩
      have htk : (ord L 15)[k]? = some t := by rw [← HT.out, List.getElem?_map, hx]; rfl
      have htm : t ∈ ord L 15 := List.mem_of_getElem? htk
      have hread := fun (w' : World) (h : Sat w' [pool P]) => h.pool_read (HTP.out _ (List.mem_of_getElem? hx))
      obtain ⟨aob, capb, hbv, -, -, -, -⟩ := hread wr (Sat.pick hS6 [1] [_] rfl (by simp))
      unfold entW at hbv
      simp only at hbv
      subst hbv
      obtain ⟨n15, hwd1⟩ : ∃ n, (wd L t).1 = n := ⟨_, rfl⟩
      have hbl : (wbits L t).length = n15 := by rw [wbits_length, hwd1]
      obtain ⟨b5, o5, cap', heq, -, -, -, hc5, -⟩ := hS6.sl_cells (by omega)
      simp only [Value.slice.injEq, true_and] at heq
      obtain ⟨rfl, rfl⟩ := heq
      obtain ⟨q1, q2⟩ := wordC_get hx
      have e1 := hc5 _ _ q1
      have e2 := hc5 _ _ q2
      rw [← Nat.add_assoc] at e2
      simp only at e1 e2
      rw [hbl] at e2
      have hA := hS6.alloc (.cells #[.int .i64 (t : Nat), .slice aob n15 capb] 34)
      have hrd : ∀ w', Sat w' (blk wr.heap.size (.cells #[.int .i64 (t : Nat), .slice aob n15 capb] 34) :: sl 34 2 T.length (.slice (some ⟨b5, o5, none⟩) T.length cap5) (wordC T) :: pool P :: Rs) → IntsR w' (.slice aob n15 capb) (bitsI (wbits L t)) := by
        intro w' h
        have hr := hread _ (Sat.pick h [2] [_] rfl (by simp))
        unfold entW at hr
        simp only [hbl] at hr
        have hbil : (bitsI (wbits L t)).length = n15 := by simp [bitsI, hbl]
        unfold IntsR; rw [hbil]; exact hr
      have Hrd := Lib.hid hrd
      clear hx hread q1 q2 hc5 hbl hrd
      by_cases hh : hits L l t
      · have hp : preB (wbits L t) l = true := by rw [preB_hits]; exact decide_eq_true hh
        have hdec := dec_hit ((find_at htk H.out).1 (decide_eq_true hh))
        rw [hwd1] at hdec
        have Hdec := Lib.hid hdec
        clear hdec hh htk hwd1
        go_wp2_with (go_at_call 59; refine (begins_any _ _ (wbits L t) l _ (Hrd.out _ hA) (Hu.out _ hA.tail.tail.tail)).mono ?_; rw [hp]; rintro e w7 ⟨rfl, n7, rfl⟩)
        clear hp
        have hS8 := hA.drewN n7
        have hbk := (hS8.at_ 0 _ rfl).choose_spec.2
        have p0 : (World.drewN (wr.alloc (.cells #[.int .i64 (t : Nat), .slice aob n15 capb] 34)) n7).cell? ⟨wr.heap.size, 0, none⟩ = some (.int .i64 (t : Nat)) := by rw [cell_of_row _ _ 0 _ _ _ hbk]; rfl
        have p1 : (World.drewN (wr.alloc (.cells #[.int .i64 (t : Nat), .slice aob n15 capb] 34)) n7).cell? ⟨wr.heap.size, 1, none⟩ = some (.slice aob n15 capb) := by rw [cell_of_row _ _ 1 _ _ _ hbk]; rfl
        clear hbk
        go_quiet (fail)
        go_wp2
        go_ret3
        refine ⟨?_, Sat.drewN hS8.tail _⟩
        rw [Hdec.out]
        rfl
      · have hp : preB (wbits L t) l = false := by rw [preB_hits]; exact decide_eq_false hh
        have hfn := (find_at htk H.out).2 (decide_eq_false hh)
        have Hfn := Lib.hid hfn
        clear hfn hh htk hwd1
        go_wp2_with (go_at_call 59; refine (begins_any _ _ (wbits L t) l _ (Hrd.out _ hA) (Hu.out _ hA.tail.tail.tail)).mono ?_; rw [hp]; rintro e w7 ⟨rfl, n7, rfl⟩)
        clear hp
        have hS8 := hA.drewN n7
        go_roundw
        case rel => exact ⟨k + 1, by omega, by go_num, Hfn, hS8.tail⟩
        case measure => simp [intOf]; omega
    · obtain rfl : k = T.length := by omega
      have hd : decide (T.length < T.length) = false := by simp
      have hfind : (ord L 15).find? (fun t => decide (hits L l t)) = none := by
        have := H.out
        rwa [List.take_of_length_le (by rw [← HT.out, List.length_map]; exact Nat.le_refl _)] at this
      have hno : ∀ t ∈ ord L 15, ¬ hits L l t := by
        intro t ht
        rw [List.find?_eq_none] at hfind
        simpa using hfind t ht
      have Hfind := Lib.hid hfind
      have Hno := Lib.hid hno
      clear hfind hno H
      by_cases hl0 : l.length = 0
      · have hdec := dec_short Hfind.out (.inl (List.eq_nil_of_length_eq_zero hl0))
        have Hdec := Lib.hid hdec
        have hz : (((l.length : Nat) : Int) == 0) = true := by rw [hl0]; rfl
        clear hdec hl0
        go_wp2
        go_ret3
        exact ⟨by rw [Hdec.out]; rfl, hS6⟩
      · have hz : (((l.length : Nat) : Int) == 0) = false := beq_eq_false_iff_ne.2 (by omega)
        have Hl0 := Lib.hid hl0
        clear hl0
        go_wp2
        go_loopw [32] (fun i wr => ∃ k : Nat, k ≤ T.length ∧ i = .int .i64 k ∧ Hid (((ord L 15).take k).find? (fun t => decide (mayHit L l t)) = none) ∧ Sat wr (sl 34 2 T.length (.slice ao5 T.length cap5) (wordC T) :: pool P :: Rs)) (fun i _ => T.length - (intOf i).toNat)
        case atStart => exact ⟨0, by omega, rfl, by unfold Hid; simp, hS6⟩
        case round =>
          obtain ⟨k, hk, rfl, H, hS9⟩ := hrel
          by_cases hlt : k < T.length
          · have hd : decide (k < T.length) = true := decide_eq_true hlt
            obtain ⟨⟨t, bv⟩, hx⟩ : ∃ x, T[k]? = some x := ⟨_, List.getElem?_eq_getElem hlt⟩
            have htk : (ord L 15)[k]? = some t := by rw [← HT.out, List.getElem?_map, hx]; rfl
            have htm : t ∈ ord L 15 := List.mem_of_getElem? htk
            have hread := fun (w' : World) (h : Sat w' [pool P]) => h.pool_read (HTP.out _ (List.mem_of_getElem? hx))
            obtain ⟨aob, capb, hbv, -, -, -, -⟩ := hread wr (Sat.pick hS9 [1] [_] rfl (by simp))
            unfold entW at hbv
            simp only at hbv
            subst hbv
            obtain ⟨n15, hwd1⟩ : ∃ n, (wd L t).1 = n := ⟨_, rfl⟩
            have hbl : (wbits L t).length = n15 := by rw [wbits_length, hwd1]
            obtain ⟨b5, o5, cap', heq, -, -, -, hc5, -⟩ := hS9.sl_cells (by omega)
            simp only [Value.slice.injEq, true_and] at heq
            obtain ⟨rfl, rfl⟩ := heq
            obtain ⟨q1, q2⟩ := wordC_get hx
            have e1 := hc5 _ _ q1
            have e2 := hc5 _ _ q2
            rw [← Nat.add_assoc] at e2
            simp only at e1 e2
            rw [hbl] at e2
            have hA := hS9.alloc (.cells #[.int .i64 (t : Nat), .slice aob n15 capb] 34)
            have hrd : ∀ w', Sat w' (blk wr.heap.size (.cells #[.int .i64 (t : Nat), .slice aob n15 capb] 34) :: sl 34 2 T.length (.slice (some ⟨b5, o5, none⟩) T.length cap5) (wordC T) :: pool P :: Rs) → IntsR w' (.slice aob n15 capb) (bitsI (wbits L t)) := by
              intro w' h
              have hr := hread _ (Sat.pick h [2] [_] rfl (by simp))
              unfold entW at hr
              simp only [hbl] at hr
              have hbil : (bitsI (wbits L t)).length = n15 := by simp [bitsI, hbl]
              unfold IntsR; rw [hbil]; exact hr
            have Hrd := Lib.hid hrd
            clear hx hread q1 q2 hc5 hbl hrd
            by_cases hh : mayHit L l t
            · have hp : preB l (wbits L t) = true := by rw [preB_may (Hno.out t htm)]; exact decide_eq_true hh
              have hdec := dec_short Hfind.out (.inr ⟨t, htm, hh⟩)
              have Hdec := Lib.hid hdec
              clear hdec hh htk htm hwd1
              go_wp2_with (go_at_call 59; refine (begins_any _ _ l (wbits L t) _ (Hu.out _ hA.tail.tail.tail) (Hrd.out _ hA)).mono ?_; rw [hp]; rintro e w7 ⟨rfl, n7, rfl⟩)
              clear hp
              have hS8 := hA.drewN n7
              go_ret3
              exact ⟨by rw [Hdec.out]; rfl, hS8.tail⟩
            · have hp : preB l (wbits L t) = false := by rw [preB_may (Hno.out t htm)]; exact decide_eq_false hh
              have hfn := (find_at htk H.out).2 (decide_eq_false hh)
              have Hfn := Lib.hid hfn
              clear hfn hh htk htm hwd1
              go_wp2_with (go_at_call 59; refine (begins_any _ _ l (wbits L t) _ (Hu.out _ hA.tail.tail.tail) (Hrd.out _ hA)).mono ?_; rw [hp]; rintro e w7 ⟨rfl, n7, rfl⟩)
              clear hp
              have hS8 := hA.drewN n7
              go_roundw
              case rel => exact ⟨k + 1, by omega, by go_num, Hfn, hS8.tail⟩
              case measure => simp [intOf]; omega
          · obtain rfl : k = T.length := by omega
            have hd : decide (T.length < T.length) = false := by simp
            have hmay : ¬ (l = [] ∨ ∃ t ∈ ord L 15, mayHit L l t) := by
              have := H.out
              rw [List.take_of_length_le (by rw [← HT.out, List.length_map]; exact Nat.le_refl _), List.find?_eq_none] at this
              rintro (rfl | ⟨t, ht, h⟩)
              · exact Hl0.out rfl
              · exact absurd h (by simpa using this t ht)
            have Hdec := Lib.hid (dec_none Hfind.out hmay)
            clear hmay
            go_wp2
            go_ret3
            exact ⟨by rw [Hdec.out]; rfl, hS9⟩

theorem byteBits_take (y : UInt8) (j : Nat) (hj : j < 8) : (byteBits y).take (j + 1) = (byteBits y).take j ++ [y.toNat.testBit j] := by
  rw [List.take_succ_eq_append_getElem (by simpa using hj)]
  simp [byteBits]
theorem bitsI_snoc (l : List Bool) (m : Nat) (b : Bool) (h : m % 2 = b.toNat) : (bitsI (l ++ [b])).map intV = (bitsI l).map intV ++ [.int .i64 ((m : Int) % 2)] := by
  have : ((m : Int) % 2) = ((m % 2 : Nat) : Int) := by omega
  rw [this]
  simp [bitsI, bitI, intV, h]

set_option maxHeartbeats 1000000 in
theorem refBits_any {w : World} {Rs : List Res} (hS : Sat w Rs) (v : Value) (ys : List UInt8) (hv : ∀ w', Sat w' Rs → SlR w' 5 1 ys.length v (ys.map byteV)) (hb : ys.length ≤ 4194304) :
    Calls Try.prog 24 #[v] w fun e w' => ∃ out, e = .returned out ∧ Sat w' (sl 3 1 (bitsOf ys).length out ((bitsI (bitsOf ys)).map intV) :: Rs) := by
  obtain ⟨ao, cap, rfl, c1, c2, -, -⟩ := hv w hS
  unfold maxLen at c2
  have hcell : ∀ w', Sat w' Rs → ∀ k (hk : k < ys.length), ∃ b o, ao = some ⟨b, o, none⟩ ∧ w'.cell? ⟨b, o + k, none⟩ = some (.int .u8 (ys[k].toNat : Nat)) := by
    intro w' h k hk
    obtain ⟨ao', cap', heq, -, -, -, hc⟩ := hv w' h
    simp only [Value.slice.injEq, true_and] at heq
    obtain ⟨rfl, rfl⟩ := heq
    obtain ⟨b, o, rfl, -, hc⟩ := hc (by omega)
    exact ⟨b, o, rfl, hc k _ (by simp [hk, byteV])⟩
  have Hc := Lib.hid hcell
  clear hv hcell
  obtain ⟨i1, hi1, hy0, hy1, hy2⟩ := info_parts Try.infoIntW
  go_enter Try.func24, Try.ntmps24
  go_wp2
  go_loopw [3, 4] (fun out i wr => ∃ k : Nat, k ≤ ys.length ∧ i = .int .i64 k ∧ Sat wr (sl 3 1 (bitsOf (ys.take k)).length out ((bitsI (bitsOf (ys.take k))).map intV) :: Rs)) (fun _ i _ => ys.length - (intOf i).toNat)
  case atStart => exact ⟨0, by omega, rfl, by simpa [bitsI] using hS.sl_nil _ _ _⟩
  case round =>
    obtain ⟨k, hk, rfl, hS1⟩ := hrel
    by_cases hlt : k < ys.length
    · have hd : decide (k < ys.length) = true := decide_eq_true hlt
      obtain ⟨b, o, rfl, hcs⟩ := Hc.out wr hS1.tail k hlt
      obtain ⟨y, Hy⟩ : ∃ y, Hid (y = ys[k]) := ⟨_, Lib.hid rfl⟩
      rw [← Hy.out] at hcs
      have hy8 : y.toNat < 256 := y.toNat_lt
      have hbl : (bitsOf (ys.take k)).length = 8 * k := by rw [bitsOf_length, List.length_take, Nat.min_eq_left hk]
      have Hbl := Lib.hid hbl
      clear hbl
      go_wp2
      go_loopw [3, 5, 6] (fun out n i wr => ∃ j m : Nat, j ≤ 8 ∧ m < 256 ∧ Hid (m = y.toNat / 2 ^ j) ∧ n = .int .i64 m ∧ i = .int .i64 j ∧ Sat wr (sl 3 1 (bitsOf (ys.take k) ++ (byteBits y).take j).length out ((bitsI (bitsOf (ys.take k) ++ (byteBits y).take j)).map intV) :: Rs)) (fun _ _ i _ => 8 - (intOf i).toNat)
      case atStart => exact ⟨0, y.toNat, by omega, hy8, by unfold Hid; simp, rfl, rfl, by simpa using hS1⟩
      case round =>
        obtain ⟨j, m, hj, hm, Hm, rfl, rfl, hS2⟩ := hrel
        by_cases hlt2 : j < 8
        · obtain ⟨F8, ao8, cap8, rfl, -, -, -, -⟩ := hS2.first
          have hd2 : decide ((j : Int) < 8) = true := decide_eq_true (by omega)
          have hA := hS2.sl_made (e := 3) (size := 1) (n := 1) (cap := 1) (cur := #[.int .i64 (m % 2 : Nat)]) (xs := [.int .i64 (m % 2 : Nat)]) (by omega) (by decide) rfl (by simp) (fun j u hu => by simpa using hu)
          have hsrc := SlR.src (P := Try.prog) hA.sl_read Try.underlying22 (by simp [Value.oneCell'])
          have hA2 := Sat.perm (As := [_, _]) hA [1] [_] rfl (by simp)
          have hbt : m % 2 = (y.toNat.testBit j).toNat := by
            rw [Hm.out, Nat.testBit_eq_decide_div_mod_eq]
            rcases Nat.mod_two_eq_zero_or_one (y.toNat / 2 ^ j) with h | h <;> simp [h]
          have Hbt := Lib.hid hbt
          have Hsrc := Lib.hid hsrc
          have Hlen : Hid ((bitsOf (ys.take k) ++ (byteBits y).take j).length = 8 * k + j) := by
            unfold Hid; rw [List.length_append, Hbl.out, List.length_take, byteBits_length, Nat.min_eq_left hj]
          clear hsrc hA hbt
          go_wp2_with (at_builtin; refine wpList_append_sat _ rfl _ _ 22 22 rfl 3 i1 (.int .i64 0) 1 8 Try.underlying22 hi1 hy0 hy1 hy2 rfl (by decide) _ _ _ _ rfl hA2 1 _ _ rfl Hsrc.out ?_ ?_ ?_)
          · rw [Hlen.out]; unfold maxLen; omega
          · rw [Hlen.out]; omega
          · intro v' w' hS7
            go_wp2
            go_roundw
            case rel =>
              refine ⟨j + 1, m / 2, by omega, by omega, ?_, by go_num, by go_num, ?_⟩
              · unfold Hid; rw [Hm.out, Nat.div_div_eq_div_mul, Nat.pow_succ]
              · rw [byteBits_take y j hlt2, ← List.append_assoc, List.length_append, Hlen.out, bitsI_snoc _ m _ Hbt.out]
                exact hS7
            case measure => simp [intOf]; omega
        · obtain rfl : j = 8 := by omega
          have h8 : (byteBits y).take 8 = byteBits y := List.take_of_length_le (by simp)
          have hbs : bitsOf (ys.take k) ++ (byteBits y).take 8 = bitsOf (ys.take (k + 1)) := by
            rw [List.take_succ_eq_append_getElem hlt, bitsOf_append, h8, ← Hy.out]
            simp [bitsOf]
          rw [hbs] at hS2
          clear hbs h8
          go_wp2
          go_roundw
          case rel => exact ⟨k + 1, by omega, by go_num, hS2⟩
          case measure => simp [intOf]; omega
    · obtain rfl : k = ys.length := by omega
      have hd : decide (ys.length < ys.length) = false := by simp
      rw [List.take_length] at hS1
      go_wp2
      go_ret
      exact ⟨_, rfl, hS1⟩

end Go.Proofs.Ytobkmkdnkdbgeaa
