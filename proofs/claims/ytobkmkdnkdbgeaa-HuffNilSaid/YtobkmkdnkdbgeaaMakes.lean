/- The law HuffMakes: its walk. -/
import Derived.Test.YtobkmkdnkdbgeaaCheckM
import Derived.Test.YtobkmkdnkdbgeaaFix5
import Derived.Test.YtobkmkdnkdbgeaaRow
namespace Go.Proofs.Ytobkmkdnkdbgeaa
open Go.RowKit Go.Hal
set_option linter.unusedVariables false
set_option linter.unusedSimpArgs false

theorem natsV_natL {xs : List Int} (h : ∀ x ∈ xs, 0 ≤ x) : natsV (natL xs) = xs := by
  induction xs with
  | nil => rfl
  | cons x r ih =>
    have h1 := h x (by simp)
    have h2 := ih (fun y hy => h y (by simp [hy]))
    simp only [natsV, natL, List.map_cons] at *
    rw [h2, Int.toNat_of_nonneg h1]
theorem natL_length (xs : List Int) : (natL xs).length = xs.length := by simp [natL]

def NewAny (xs : List Int) (Rs : List Res) (e : Ending) (w' : World) : Prop :=
  (checkI xs = 0 ∧ ∃ c, e = .returned (.tuple #[.pointer (some ⟨c, 0, none⟩), .int .i64 0]) ∧ Sat w' (code c (natL xs) :: Rs)) ∨
  (checkI xs ≠ 0 ∧ e = .returned (.tuple #[.pointer none, .int .i64 (checkI xs)]) ∧ Sat w' Rs)
theorem checkI_ok {xs : List Int} (h : checkI xs = 0) : xs.length ≤ 288 ∧ natsV (natL xs) = xs ∧ (∀ x ∈ natL xs, x ≤ 15) ∧ Fits (natL xs) := by
  unfold checkI at h
  split at h
  · cases h
  · rename_i hb
    unfold badL at hb
    have h0 : ∀ x ∈ xs, 0 ≤ x ∧ x ≤ 15 := fun x hx => by
      have : ¬ (x < 0 ∨ 15 < x) := fun hh => hb (.inr ⟨x, hx, hh⟩)
      omega
    have h15 : ∀ x ∈ natL xs, x ≤ 15 := by
      intro y hy
      obtain ⟨x, hx, rfl⟩ := List.mem_map.1 hy
      have := h0 x hx
      omega
    exact ⟨by have : ¬ 288 < xs.length := fun hh => hb (.inl hh)
              omega, natsV_natL (fun x hx => (h0 x hx).1), h15, okL_fits h15 ((okL_iff h15).2 h)⟩

theorem new_any {w : World} {Rs : List Res} (hS : Sat w Rs) (v : Value) (xs : List Int) (hv : ∀ w', Sat w' Rs → IntsR w' v xs) :
    Calls Try.prog 16 #[v] w (NewAny xs Rs) := by
  by_cases hb : badL xs
  · refine (new_bad hS v xs (hv w hS) hb).mono ?_
    rintro e w' ⟨rfl, rfl⟩
    have hc : checkI xs = 1 := by unfold checkI; rw [if_pos hb]
    exact .inr ⟨by omega, by rw [hc]; rfl, hS⟩
  · have h0 : ∀ x ∈ xs, 0 ≤ x ∧ x ≤ 15 := fun x hx => by
      have : ¬ (x < 0 ∨ 15 < x) := fun hh => hb (.inr ⟨x, hx, hh⟩)
      omega
    have h15 : ∀ x ∈ natL xs, x ≤ 15 := by
      intro y hy
      obtain ⟨x, hx, rfl⟩ := List.mem_map.1 hy
      have := h0 x hx
      omega
    have hn := natsV_natL (fun x hx => (h0 x hx).1)
    have hl : xs.length ≤ 288 := by
      have : ¬ 288 < xs.length := fun hh => hb (.inl hh)
      omega
    have hc : checkI xs = checkL (natL xs) := by unfold checkI; rw [if_neg hb]
    refine (new_good hS v (natL xs) (by rw [hn]; exact hv) (by rw [natL_length]; exact hl) h15).mono ?_
    rintro e w' (⟨h1, c, rfl, h2⟩ | ⟨h1, rfl, h2⟩)
    · exact .inl ⟨by rw [hc]; exact (okL_iff h15).1 h1, c, rfl, h2⟩
    · have hne : checkL (natL xs) ≠ 0 := fun h => h1 ((okL_iff h15).2 h)
      have h5 : checkL (natL xs) = 5 := by
        unfold checkL at hne ⊢
        split
        · rename_i hh; rw [if_pos hh] at hne; exact absurd rfl hne
        · rfl
      exact .inr ⟨by rw [hc]; exact hne, by rw [hc, h5]; rfl, h2⟩

theorem wordC_length (T : List (Nat × Value)) : (wordC T).length = T.length * 2 := by
  induction T with
  | nil => rfl
  | cons k r ih => simp only [wordC, List.flatMap_cons, List.length_append, List.length_cons, List.length_nil] at *; omega
theorem wordC_get {T : List (Nat × Value)} : ∀ {k : Nat} {x : Nat × Value}, T[k]? = some x → (wordC T)[k * 2]? = some (.int .i64 (x.1 : Nat)) ∧ (wordC T)[k * 2 + 1]? = some x.2 := by
  induction T with
  | nil => intro k x h; simp at h
  | cons y r ih =>
    intro k x h
    cases k with
    | zero => simp at h; subst h; simp [wordC]
    | succ k =>
      have := ih (k := k) (x := x) (by simpa using h)
      simp only [wordC, List.flatMap_cons] at *
      rw [show (k + 1) * 2 = k * 2 + 2 by omega, show k * 2 + 2 + 1 = k * 2 + 1 + 2 by omega]
      exact this

/-- A word of a right code. -/
theorem word_ok {w : World} {c : Nat} {xs : List Int} {Rs : List Res} (hS : Sat w (code c (natL xs) :: Rs)) (hc : checkI xs = 0) (s : Nat) (hs : s < xs.length) :
    Calls Try.prog 18 #[.pointer (some ⟨c, 0, none⟩), .int .i64 s] w fun e w' => e = .returned (.tuple #[.int .i64 ((wd (natL xs) s).2 : Nat), .int .i64 ((wd (natL xs) s).1 : Nat)]) ∧ ∃ n, w' = w.drewN n := by
  obtain ⟨h1, h2, h3, h4⟩ := checkI_ok hc
  have := word_code hS (by rw [natL_length]; exact h1) s
  rw [wordOf_at _ h3 s (by rw [natL_length]; exact hs)] at this
  exact this

set_option maxRecDepth 100000 in
set_option maxHeartbeats 2000000 in
theorem huffMakes_true {w : World} {Rs : List Res} (hS : Sat w Rs) (v : Value) (xs : List Int) (hv : ∀ w', Sat w' Rs → IntsR w' v xs) (sym : Int) :
    Calls Try.prog 3 #[v, .int .i64 sym] w fun e w' => e = .returned (.bool true) ∧ Sat w' Rs := by
  have hfix := fixed5_true hS
  obtain ⟨ao, cap, rfl, c1, c2, -⟩ := (hv w hS).cell
  have Hv := Lib.hid hv
  clear hv
  by_cases hck : checkI xs = 0
  · obtain ⟨g1, g2, g3, g4⟩ := checkI_ok hck
    have Hck := Lib.hid hck
    have Hx := Lib.hid g3
    have Hf := Lib.hid g4
    have hlen := natL_length xs
    have Hlen := Lib.hid hlen
    have hwsl : (ord (natL xs) 15).length = ws (natL xs) := ord_ws _ g3
    have Hws := Lib.hid hwsl
    obtain ⟨W, HW⟩ : ∃ W, Hid (W = wordOf (natL xs) sym) := ⟨_, Lib.hid rfl⟩
    have hW0 : ¬ (0 ≤ sym ∧ sym < (xs.length : Int)) → W = (0, 0) := by
      intro h
      rw [HW.out]
      exact wordOf_out _ _ (by rw [hlen]; omega)
    have hv2 : ∀ w', Sat w' Rs → IntsR w' (.slice ao xs.length cap) (natsV (natL xs)) := by rw [g2]; exact Hv.out
    have Hv2 := Lib.hid hv2
    clear hck g2 g3 g4 hlen hwsl hv2
    have hcond : (∃ d1 : decide (sym < 0) = true, W = (0, 0)) ∨ (∃ (d1 : decide (sym < 0) = false) (d2 : decide ((xs.length : Int) ≤ sym) = true), W = (0, 0)) ∨ (∃ (d1 : decide (sym < 0) = false), decide ((xs.length : Int) ≤ sym) = false) := by
      by_cases h1 : sym < 0
      · exact .inl ⟨decide_eq_true h1, hW0 (by omega)⟩
      · by_cases h2 : (xs.length : Int) ≤ sym
        · exact .inr (.inl ⟨decide_eq_false h1, decide_eq_true h2, hW0 (by omega)⟩)
        · exact .inr (.inr ⟨decide_eq_false h1, decide_eq_false h2⟩)
    clear hW0
    rcases hcond with ⟨d1, rfl⟩ | ⟨d1, d2, rfl⟩ | ⟨d1, d2⟩
    all_goals
      go_enter Try.func3, Try.ntmps3
      go_wp2_with (first
        | (go_at_call 15; refine hfix.mono ?_; rintro e w1 ⟨rfl, hS1⟩)
        | (go_at_call 16; refine (new_any hS1 _ xs Hv.out).mono ?_; rintro e w2 (⟨-, c, rfl, hS2⟩ | ⟨h, -, -⟩); rotate_left; (exact (h Hck.out).elim))
        | (go_at_call 17; refine (check_any _ xs _ (Hv.out _ hS2.tail)).mono ?_; rw [Hck.out]; rintro e w3 ⟨rfl, rfl⟩)
        | (go_at_call 18; refine (word_code hS2 (by rw [Hlen.out]; exact g1) sym).mono ?_; rw [← HW.out]; rintro e w4 ⟨rfl, n4, rfl⟩))
      have hwd := words_any (hS2.drewN n4) (.slice ao xs.length cap) (natL xs) (fun w' h => Hv2.out w' h.tail) (by rw [Hlen.out]; exact g1) Hx.out
      refine hwd.mono ?_
      rintro e w5 ⟨out, T, P, rfl, hT, hTP, hS5⟩
      have hTl : T.length = ws (natL xs) := by rw [← Hws.out, ← hT, List.length_map]
      have hwsx : ws (natL xs) ≤ 288 := by have := ws_le (natL xs); rw [Hlen.out] at this; omega
      have HT := Lib.hid hT
      have HTP := Lib.hid hTP
      have HTl := Lib.hid hTl
      have Hwsx := Lib.hid hwsx
      obtain ⟨F5, ao5, cap5, rfl, -, k5, -, -⟩ := hS5.first
      unfold maxLen at k5
      have hT288 : T.length ≤ 288 := by omega
      clear hwd hT hTP hTl hwsx
      go_wp2
      go_loopw [10, 66] (fun z i wr => ∃ k : Nat, k ≤ T.length ∧ z = .int .i64 k ∧ i = .int .i64 k ∧ Sat wr (sl 34 2 T.length (.slice ao5 T.length cap5) (wordC T) :: pool P :: code c (natL xs) :: Rs)) (fun _ i _ => T.length - (intOf i).toNat)
      case atStart => exact ⟨0, by omega, rfl, rfl, hS5⟩
      case round =>
        obtain ⟨k, hk, rfl, rfl, hS6⟩ := hrel
        by_cases hlt : k < T.length
        · have hd : decide (k < T.length) = true := decide_eq_true hlt
          obtain ⟨⟨t, bv⟩, hx⟩ : ∃ x, T[k]? = some x := ⟨_, List.getElem?_eq_getElem hlt⟩
          have htm : t ∈ ord (natL xs) 15 := by rw [← HT.out]; exact List.mem_map.2 ⟨_, List.mem_of_getElem? hx, rfl⟩
          have htl : t < xs.length := by
            obtain ⟨n, -, -, h⟩ := (mem_ord _ _ _).1 htm
            have := lt_of_get h
            rwa [Hlen.out] at this
          have hread := fun (w' : World) (h : Sat w' [pool P]) => h.pool_read (HTP.out _ (List.mem_of_getElem? hx))
          obtain ⟨aob, capb, hbv, -, -, -, -⟩ := hread wr (Sat.pick hS6 [1] [_] rfl (by simp))
          unfold entW at hbv
          simp only at hbv
          subst hbv
          obtain ⟨n15, hn15⟩ : ∃ n, (wd (natL xs) t).1 = n ∧ n ≤ 15 := by
            obtain ⟨n, -, h2, h⟩ := (mem_ord _ _ _).1 htm
            exact ⟨n, by rw [wd_at h], h2⟩
          obtain ⟨hwd1, hn15⟩ := hn15
          have hbl : (wbits (natL xs) t).length = n15 := by rw [wbits_length, hwd1]
          obtain ⟨b5, o5, cap', heq, -, -, -, hc5, -⟩ := hS6.sl_cells (by omega)
          simp only [Value.slice.injEq, true_and] at heq
          obtain ⟨rfl, rfl⟩ := heq
          obtain ⟨q1, q2⟩ := wordC_get hx
          have e1 := hc5 _ _ q1
          have e2 := hc5 _ _ q2
          rw [← Nat.add_assoc] at e2
          simp only at e1 e2
          rw [hbl] at e2
          have hA := hS6.alloc (.cells #[.int .i64 (t : Nat), .slice aob n15 capb] 34)
          have Hread := Lib.hid hread
          have Hwd1 := Lib.hid hwd1
          have Hbl := Lib.hid hbl
          obtain ⟨vv, Hvv⟩ : ∃ vv, Hid (vv = (wd (natL xs) t).2) := ⟨_, Lib.hid rfl⟩
          clear hx htm hread q1 q2 hc5 hwd1 hbl
          go_wp2_with (go_at_call 18; refine (word_ok (Sat.front hA 3 _ rfl) Hck.out t htl).mono ?_; rw [Hwd1.out, ← Hvv.out]; rintro e w7 ⟨rfl, n7, rfl⟩)
          have hA7 := hA.drewN n7
          have hr := Hread.out _ (Sat.pick hA7 [2] [_] rfl (by simp))
          unfold entW at hr
          simp only [Hbl.out] at hr
          have hbil : (bitsI (wbits (natL xs) t)).length = n15 := by simp [bitsI, Hbl.out]
          have hp := put_any (t : Nat) (.slice aob n15 capb) (wbits (natL xs) t) _ (by rw [Hbl.out]; omega) (by unfold IntsR; rw [hbil]; exact hr)
          rw [num_wbits, ← Hvv.out] at hp
          refine hp.mono ?_
          rintro e w8 ⟨rfl, hM⟩
          have hS8 := hA7.keep hM
          have hbk := (hS8.at_ 0 _ rfl).choose_spec.2
          have p0 : w8.cell? ⟨wr.heap.size, 0, none⟩ = some (.int .i64 (t : Nat)) := by rw [cell_of_row w8 _ 0 _ _ _ hbk]; rfl
          have p1 : w8.cell? ⟨wr.heap.size, 1, none⟩ = some (.slice aob n15 capb) := by rw [cell_of_row w8 _ 1 _ _ _ hbk]; rfl
          clear hA7 hr hbil hp hM hbk
          go_wp2
          go_roundw
          case rel => exact ⟨k + 1, by omega, by go_num, by go_num, hS8.tail⟩
          case measure => simp [intOf]; omega
        · obtain rfl : k = T.length := by omega
          have hd : decide (T.length < T.length) = false := by simp
          go_wp2
          go_loopw [10, 93] (fun z i wr => ∃ (s y : Nat), s ≤ xs.length ∧ z = .int .i64 ((T.length : Int) - (y : Nat)) ∧ Hid (y = ws ((natL xs).take s)) ∧ y ≤ s ∧ i = .int .i64 s ∧ Sat wr (sl 34 2 T.length (.slice ao5 T.length cap5) (wordC T) :: pool P :: code c (natL xs) :: Rs)) (fun _ i _ => xs.length - (intOf i).toNat)
          case atStart => exact ⟨0, 0, by omega, by simp, by unfold Hid; simp [ws], by omega, rfl, hS6⟩
          case round =>
            obtain ⟨s, y, hs, rfl, Hy, hy, rfl, hS9⟩ := hrel
            by_cases hlt2 : s < xs.length
            · have hd2 : decide (s < xs.length) = true := decide_eq_true hlt2
              have hsL : s < (natL xs).length := by rw [Hlen.out]; exact hlt2
              obtain ⟨n, hn⟩ : ∃ n, (natL xs)[s]? = some n := ⟨_, List.getElem?_eq_getElem hsL⟩
              have hnw : (wd (natL xs) s).1 = n := by rw [wd_at hn]
              have hstep : ws ((natL xs).take (s + 1)) = ws ((natL xs).take s) + if 0 < n then 1 else 0 := by
                rw [List.take_succ_eq_append_getElem hsL, ws_snoc]
                rw [List.getElem?_eq_getElem hsL, Option.some.injEq] at hn
                rw [hn]
              have Hstep := Lib.hid hstep
              have Hnw := Lib.hid hnw
              obtain ⟨vv, Hvv⟩ : ∃ vv, Hid (vv = (wd (natL xs) s).2) := ⟨_, Lib.hid rfl⟩
              have hn15 : n ≤ 15 := Hx.out n (List.mem_of_getElem? hn)
              clear hn hstep hnw
              by_cases h0 : 0 < n
              · have hd3 : decide (0 < n) = true := decide_eq_true h0
                go_wp2_with (go_at_call 18; refine (word_ok (Sat.front hS9 2 _ rfl) Hck.out s hlt2).mono ?_; rw [Hnw.out, ← Hvv.out]; rintro e w7 ⟨rfl, n7, rfl⟩)
                go_roundw
                case rel =>
                  refine ⟨s + 1, y + 1, by omega, vi (by omega), ?_, by omega, by go_num, hS9.drewN _⟩
                  unfold Hid; rw [Hstep.out, if_pos h0, Hy.out]
                case measure => simp [intOf]; omega
              · obtain rfl : n = 0 := by omega
                have hd3 : decide (0 < 0) = false := by simp
                go_wp2_with (go_at_call 18; refine (word_ok (Sat.front hS9 2 _ rfl) Hck.out s hlt2).mono ?_; rw [Hnw.out, ← Hvv.out]; rintro e w7 ⟨rfl, n7, rfl⟩)
                go_roundw
                case rel =>
                  refine ⟨s + 1, y, by omega, rfl, ?_, by omega, by go_num, hS9.drewN _⟩
                  unfold Hid; rw [Hstep.out, if_neg (by omega), Hy.out, Nat.add_zero]
                case measure => simp [intOf]; omega
            · obtain rfl : s = xs.length := by omega
              have hd2 : decide (xs.length < xs.length) = false := by simp
              have hyT : y = T.length := by
                rw [Hy.out, HTl.out, List.take_of_length_le (by rw [Hlen.out]; omega)]
              have hz : (((T.length : Int) - (y : Nat)) == 0) = true := by simp [hyT]
              have HyT := Lib.hid hyT
              clear hyT
              go_wp2
              go_ret
              exact ⟨rfl, Sat.perm (As := [_, _, _]) (Bs := []) hS9 [] rfl (by simp)⟩
  · have hnew := fun w' (h : Sat w' Rs) => new_any h _ xs Hv.out
    have hcx : checkI xs = 1 ∨ checkI xs = 5 := by
      unfold checkI checkL at hck ⊢
      split
      · exact .inl rfl
      · split
        · rename_i h1 h2; rw [if_neg h1, if_pos h2] at hck; exact absurd rfl hck
        · exact .inr rfl
    have Hck := Lib.hid hck
    have Hcx := Lib.hid hcx
    obtain ⟨z, Hz⟩ : ∃ z, Hid (z = checkI xs) := ⟨_, Lib.hid rfl⟩
    have hz0 : ((z : Int) != 0) = true := by
      have : z ≠ 0 := by rw [Hz.out]; exact hck
      simp; omega
    clear hck hcx
    go_enter Try.func3, Try.ntmps3
    go_wp2_with (first
      | (go_at_call 15; refine hfix.mono ?_; rintro e w1 ⟨rfl, hS1⟩)
      | (go_at_call 16; refine (new_any hS1 _ xs Hv.out).mono ?_; rintro e w2 (⟨h, -, -, -⟩ | ⟨-, rfl, hS2⟩); (exact (Hck.out h).elim); rw [← Hz.out])
      | (go_at_call 17; refine (check_any _ xs _ (Hv.out _ hS2)).mono ?_; rw [← Hz.out]; rintro e w3 ⟨rfl, rfl⟩))
    go_ret
    exact ⟨rfl, hS2⟩

end Go.Proofs.Ytobkmkdnkdbgeaa
