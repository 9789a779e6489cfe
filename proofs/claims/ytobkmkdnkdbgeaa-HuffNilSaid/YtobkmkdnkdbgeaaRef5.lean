/- The reference of layer 5: Check, Number, Put, Words. -/
import Derived.Test.YtobkmkdnkdbgeaaHuffM
import Derived.Test.YtobkmkdnkdbgeaaPool
import Derived.Outline
namespace Go.Proofs.Ytobkmkdnkdbgeaa
open Go.RowKit Go.Hal
set_option linter.unusedVariables false
set_option linter.unusedSimpArgs false

/-- The room that words take. -/
def rm (L : List Nat) : Nat := (L.map fun n => if 0 < n then 2 ^ (15 - n) else 0).sum
def ws (L : List Nat) : Nat := (L.filter (fun n => decide (0 < n))).length
def checkL (L : List Nat) : Nat := if rm L = 32768 ∨ ws L = 0 ∨ ws L = 1 ∧ L.count 1 = 1 then 0 else 5
def badL (xs : List Int) : Prop := 288 < xs.length ∨ ∃ x ∈ xs, x < 0 ∨ 15 < x
instance (xs : List Int) : Decidable (badL xs) := inferInstanceAs (Decidable (_ ∨ _))
def natL (xs : List Int) : List Nat := xs.map Int.toNat
def checkI (xs : List Int) : Nat := if badL xs then 1 else checkL (natL xs)

theorem rm_snoc (L : List Nat) (n : Nat) : rm (L ++ [n]) = rm L + if 0 < n then 2 ^ (15 - n) else 0 := by simp [rm]
theorem ws_snoc (L : List Nat) (n : Nat) : ws (L ++ [n]) = ws L + if 0 < n then 1 else 0 := by
  unfold ws; by_cases h : 0 < n <;> simp [h]
theorem one_snoc (L : List Nat) (n : Nat) : (L ++ [n]).count 1 = L.count 1 + if n = 1 then 1 else 0 := by
  rw [List.count_append, List.count_singleton]
  by_cases h : n = 1 <;> simp [h]
theorem rm_le (L : List Nat) : rm L ≤ L.length * 16384 := by
  induction L with
  | nil => simp [rm]
  | cons n r ih =>
    simp only [rm, List.map_cons, List.sum_cons, List.length_cons] at *
    have : (if 0 < n then 2 ^ (15 - n) else 0) ≤ 16384 := by
      by_cases h : 0 < n
      · rw [if_pos h]
        exact Nat.le_trans (Nat.pow_le_pow_right (by omega) (show 15 - n ≤ 14 by omega)) (by decide)
      · rw [if_neg h]; omega
    omega
theorem ws_le (L : List Nat) : ws L ≤ L.length := List.length_filter_le _ _

theorem add_nat (a z : Nat) (ha : a ≤ 1099511627776) (hz : z ≤ 32768) : wrap64 ((a : Int) + wrap64 (z : Int)) = ((a + z : Nat) : Int) := by
  have e1 : wrap64 (z : Int) = z := wrap64_id _ (by omega) (by omega)
  rw [e1, wrap64_id _ (by omega) (by omega)]
  omega
theorem add_pow (a n : Nat) (ha : a ≤ 1099511627776) : wrap64 ((a : Int) + wrap64 (2 ^ (15 - n))) = ((a + 2 ^ (15 - n) : Nat) : Int) := by
  have hp : 2 ^ (15 - n) ≤ 32768 := Nat.le_trans (Nat.pow_le_pow_right (by omega) (show 15 - n ≤ 15 by omega)) (by decide)
  have e : ((2 : Int) ^ (15 - n)) = ((2 ^ (15 - n) : Nat) : Int) := by simp
  rw [e]
  exact add_nat a _ ha hp

set_option maxRecDepth 100000 in
set_option maxHeartbeats 1000000 in
theorem check_any (v : Value) (xs : List Int) (w : World) (hv : IntsR w v xs) :
    Calls Try.prog 17 #[v] w fun e w' => e = .returned (.int .i64 (checkI xs)) ∧ w = w' := by
  obtain ⟨ao, cap, rfl, h1, h2, hc⟩ := hv.cell
  have Hc := Lib.hid hc
  clear hc hv
  by_cases hl : 288 < xs.length
  · have he : checkI xs = 1 := by unfold checkI; rw [if_pos (.inl hl)]
    have He := Lib.hid he
    clear he
    go_enter Try.func17, Try.ntmps17
    go_wp2
    go_ret
    exact ⟨by rw [He.out]; rfl, rfl⟩
  · go_enter Try.func17, Try.ntmps17
    go_wp2
    go_loop [3, 4, 5, 13] (fun r q o i => ∃ (k a b c : Nat), k ≤ xs.length ∧ (∀ x ∈ xs.take k, 0 ≤ x ∧ x ≤ 15) ∧ Hid (a = rm (natL (xs.take k)) ∧ b = ws (natL (xs.take k)) ∧ c = (natL (xs.take k)).count 1) ∧ a ≤ k * 16384 ∧ b ≤ k ∧ c ≤ k ∧ r = .int .i64 a ∧ q = .int .i64 b ∧ o = .int .i64 c ∧ i = .int .i64 k) (fun _ _ _ i => xs.length - (intOf i).toNat)
    case atStart => exact ⟨0, 0, 0, 0, by omega, by simp, by unfold Hid; simp [natL, rm, ws], by omega, by omega, by omega, rfl, rfl, rfl, rfl⟩
    case round =>
      obtain ⟨k, a, b, c, hk, hg, H, ha, hb, hc, rfl, rfl, rfl, rfl⟩ := hrel
      have Hg := Lib.hid hg
      clear hg
      by_cases hlt : k < xs.length
      · obtain ⟨ba, oa, rfl, -, hcell⟩ := Hc.out k hlt
        obtain ⟨x, Hx⟩ : ∃ x, Hid (x = xs[k]) := ⟨_, Lib.hid rfl⟩
        rw [← Hx.out] at hcell
        have hd : decide (k < xs.length) = true := decide_eq_true hlt
        by_cases hbad : x < 0 ∨ 15 < x
        · have he : checkI xs = 1 := by
            unfold checkI; rw [if_pos (.inr ⟨x, by rw [Hx.out]; exact List.getElem_mem _, hbad⟩)]
          have He := Lib.hid he
          clear he
          by_cases h0 : x < 0
          · have d1 : decide (x < 0) = true := decide_eq_true h0
            go_wp2
            go_ret
            exact ⟨by rw [He.out]; rfl, rfl⟩
          · have d1 : decide (x < 0) = false := decide_eq_false h0
            have d2 : decide (15 < x) = true := decide_eq_true (by omega)
            go_wp2
            go_ret
            exact ⟨by rw [He.out]; rfl, rfl⟩
        · obtain ⟨n, rfl⟩ : ∃ n : Nat, x = n := ⟨x.toNat, by omega⟩
          have hn : n ≤ 15 := by omega
          have d1 : decide ((n : Int) < 0) = false := decide_eq_false (by omega)
          have d2 : decide (15 < n) = false := decide_eq_false (by omega)
          have hsn : natL (xs.take (k + 1)) = natL (xs.take k) ++ [n] := by
            unfold natL; rw [List.take_succ_eq_append_getElem hlt, List.map_append, ← Hx.out]; simp
          have Hsn := Lib.hid hsn
          have Hg2 : Hid (∀ x ∈ xs.take (k + 1), 0 ≤ x ∧ x ≤ 15) := by
            unfold Hid
            intro y hy
            rw [List.take_succ_eq_append_getElem hlt, List.mem_append] at hy
            rcases hy with hy | hy
            · exact Hg.out y hy
            · simp only [List.mem_singleton] at hy; rw [← Hx.out] at hy; omega
          clear hbad hsn
          have hp : 2 ^ (15 - n) ≤ 32768 := Nat.le_trans (Nat.pow_le_pow_right (by omega) (show 15 - n ≤ 15 by omega)) (by decide)
          have hsh := add_pow a n (by omega)
          have Hsh := Lib.hid hsh
          have Hp := Lib.hid hp
          clear hsh hp
          by_cases hn0 : 0 < n
          · have d3 : decide (0 < n) = true := decide_eq_true hn0
            have hp2 : 2 ^ (15 - n) ≤ 16384 := Nat.le_trans (Nat.pow_le_pow_right (by omega) (show 15 - n ≤ 14 by omega)) (by decide)
            have Hp2 := Lib.hid hp2
            clear hp2
            by_cases hn1 : n = 1
            · have d4 : ((n : Int) == 1) = true := by simp [hn1]
              have Hn1 := Lib.hid hn1
              clear hn1
              go_wp2
              refine ⟨⟨k + 1, a + 2 ^ (15 - n), b + 1, c + 1, by omega, Hg2.out, ⟨?_, ?_, ?_⟩, by have := Hp2.out; omega, by omega, by omega, vi (Hsh.out), vi (by omega), vi (by omega), vi (by omega)⟩, by simp [intOf]; omega⟩
              · rw [Hsn.out, rm_snoc, if_pos hn0, ← H.out.1]
              · rw [Hsn.out, ws_snoc, if_pos hn0, ← H.out.2.1]
              · rw [Hsn.out, one_snoc, if_pos Hn1.out, ← H.out.2.2]
            · have d4 : ((n : Int) == 1) = false := by simp; omega
              have Hn1 := Lib.hid hn1
              clear hn1
              go_wp2
              refine ⟨⟨k + 1, a + 2 ^ (15 - n), b + 1, c, by omega, Hg2.out, ⟨?_, ?_, ?_⟩, by have := Hp2.out; omega, by omega, by omega, vi (Hsh.out), vi (by omega), vi (by omega), vi (by omega)⟩, by simp [intOf]; omega⟩
              · rw [Hsn.out, rm_snoc, if_pos hn0, ← H.out.1]
              · rw [Hsn.out, ws_snoc, if_pos hn0, ← H.out.2.1]
              · rw [Hsn.out, one_snoc, if_neg Hn1.out, ← H.out.2.2, Nat.add_zero]
          · obtain rfl : n = 0 := by omega
            have d3 : decide (0 < 0) = false := by simp
            go_wp2
            refine ⟨⟨k + 1, a, b, c, by omega, Hg2.out, ⟨?_, ?_, ?_⟩, by omega, by omega, by omega, vi rfl, vi rfl, vi rfl, vi (by omega)⟩, by simp [intOf]; omega⟩
            · rw [Hsn.out, rm_snoc, if_neg (by omega), ← H.out.1, Nat.add_zero]
            · rw [Hsn.out, ws_snoc, if_neg (by omega), ← H.out.2.1, Nat.add_zero]
            · rw [Hsn.out, one_snoc, if_neg (by omega), ← H.out.2.2, Nat.add_zero]
      · obtain rfl : k = xs.length := by omega
        have hd : decide (xs.length < xs.length) = false := by simp
        rw [List.take_length] at H
        have hnb : ¬ badL xs := by
          rintro (h | ⟨x, hx, hb⟩)
          · omega
          · have := Hg.out x (by rw [List.take_length]; exact hx)
            omega
        have he : checkI xs = if a = 32768 ∨ b = 0 ∨ b = 1 ∧ c = 1 then 0 else 5 := by
          unfold checkI checkL
          rw [if_neg hnb, ← H.out.1, ← H.out.2.1, ← H.out.2.2]
        have He := Lib.hid he
        clear he hnb
        by_cases e1 : a = 32768
        · have d1 : ((a : Int) == 32768) = true := by simp [e1]
          have E1 := Lib.hid e1
          clear e1
          go_wp2
          go_ret
          exact ⟨by rw [He.out, if_pos (.inl E1.out)]; rfl, rfl⟩
        · have d1 : ((a : Int) == 32768) = false := by simp; omega
          by_cases e2 : b = 0
          · have d2 : ((b : Int) == 0) = true := by simp [e2]
            have E2 := Lib.hid e2
            clear e2
            go_wp2
            go_ret
            exact ⟨by rw [He.out, if_pos (.inr (.inl E2.out))]; rfl, rfl⟩
          · have d2 : ((b : Int) == 0) = false := by simp; omega
            by_cases e3 : b = 1
            · have d3 : ((b : Int) == 1) = true := by simp [e3]
              have E3 := Lib.hid e3
              clear e3
              by_cases e4 : c = 1
              · have d4 : ((c : Int) == 1) = true := by simp [e4]
                have E4 := Lib.hid e4
                clear e4
                go_wp2
                go_ret
                exact ⟨by rw [He.out, if_pos (.inr (.inr ⟨E3.out, E4.out⟩))]; rfl, rfl⟩
              · have d4 : ((c : Int) == 1) = false := by simp; omega
                go_wp2
                go_ret
                exact ⟨by rw [He.out, if_neg (by omega)]; rfl, rfl⟩
            · have d3 : ((b : Int) == 1) = false := by simp; omega
              go_wp2
              go_ret
              exact ⟨by rw [He.out, if_neg (by omega)]; rfl, rfl⟩

/-- The number of bits, the first the lowest, as ints. -/
def bitI (b : Bool) : Int := b.toNat
def bitsI (l : List Bool) : List Int := l.map bitI

set_option maxRecDepth 100000 in
set_option maxHeartbeats 400000 in
theorem number_any (v : Value) (l : List Bool) (w : World) (hl : l.length ≤ 60) (hv : IntsR w v (bitsI l)) :
    Calls Try.prog 47 #[v] w fun e w' => e = .returned (.int .i64 (num l)) ∧ w = w' := by
  have hlen : (bitsI l).length = l.length := by simp [bitsI]
  obtain ⟨ao, cap, rfl, h1, h2, hc⟩ := hv.cell
  have hc' : ∀ k (hk : k < l.length), ∃ b o, ao = some ⟨b, o, none⟩ ∧ w.cell? ⟨b, o + k, none⟩ = some (.int .i64 (l[k].toNat : Nat)) := by
    intro k hk
    obtain ⟨b, o, e, -, hb⟩ := hc k (by omega)
    exact ⟨b, o, e, by rw [hb]; simp [bitsI, bitI]⟩
  rw [hlen] at h1 ⊢
  have Hc := Lib.hid hc'
  clear hc hc' hv hlen
  go_enter Try.func47, Try.ntmps47
  go_wp2
  go_loop [3, 4] (fun n i => ∃ k z : Nat, k ≤ l.length ∧ Hid (z = num (l.drop k)) ∧ z < 2 ^ 60 ∧ n = .int .i64 z ∧ i = .int .i64 ((k : Int) - 1)) (fun _ i => (intOf i + 1).toNat)
  case atStart => exact ⟨l.length, 0, by omega, by unfold Hid; simp [num], by omega, rfl, rfl⟩
  case round =>
    obtain ⟨k, z, hk, Hz, hz, rfl, rfl⟩ := hrel
    rcases Nat.eq_zero_or_pos k with h0 | h0
    · subst h0
      go_wp2
      go_ret
      exact ⟨ret_int (by rw [Hz.out]; rfl), rfl⟩
    · obtain ⟨j, rfl⟩ : ∃ j, k = j + 1 := ⟨k - 1, by omega⟩
      have hj : j < l.length := by omega
      obtain ⟨b, o, rfl, hcell⟩ := Hc.out j hj
      have hdrop : num (l.drop j) = l[j].toNat + 2 * num (l.drop (j + 1)) := by
        rw [List.drop_eq_getElem_cons hj]; rfl
      have hb1 : l[j].toNat ≤ 1 := by cases l[j] <;> simp
      have hlt : num (l.drop j) < 2 ^ 60 := Nat.lt_of_lt_of_le (num_lt _) (Nat.pow_le_pow_right (by omega) (by simp; omega))
      obtain ⟨d, Hd⟩ : ∃ d, Hid (d = l[j].toNat) := ⟨_, Lib.hid rfl⟩
      rw [← Hd.out] at hcell hdrop hb1
      rw [← Hz.out] at hdrop
      have Hdrop := Lib.hid hdrop
      have hlt2 : d + 2 * z < 2 ^ 60 := by omega
      have e : ((j + 1 : Nat) : Int) - 1 = (j : Int) := by omega
      rw [e]
      have hd0 : decide ((0 : Int) ≤ (j : Int)) = true := decide_eq_true (by omega)
      clear hdrop hlt e
      go_wp2
      refine ⟨⟨j, d + 2 * z, by omega, Hdrop.out.symm, hlt2, vi (by omega), vi (by omega)⟩, by simp [intOf] <;> omega⟩

set_option maxHeartbeats 400000 in
theorem put_any (s : Int) (v : Value) (l : List Bool) (w : World) (hl : l.length ≤ 60) (hv : IntsR w v (bitsI l)) :
    Calls Try.prog 20 #[.agg #[.int .i64 s, v]] w fun e w' => e = .returned (.int .i64 (num l)) ∧ Mods (fun _ => False) w w' := by
  obtain ⟨ao, cap, rfl, h1, h2, hc⟩ := hv.cell
  have hv2 : IntsR (w.alloc (.cells #[.int .i64 s, .slice ao (bitsI l).length cap] 34)) (.slice ao (bitsI l).length cap) (bitsI l) := by
    refine hv.below (B := w.heap.size) ?_
    exact (Below.refl _ _).alloc (Nat.le_refl _) _
  have hn := number_any _ l _ hl hv2
  have Hn := Lib.hid hn
  clear hn hv2 hv hc
  go_enter Try.func20, Try.ntmps20
  go_wp2_with (go_at_call 47; refine Hn.out.mono ?_; rintro e w' ⟨rfl, rfl⟩)
  go_ret
  exact ⟨rfl, (Mods.refl _ _).alloc _⟩

end Go.Proofs.Ytobkmkdnkdbgeaa
