/- Small functions: huff.turned, slices.Index, Contains, ContainsFunc at New's closure. -/
import Derived.Test.YtobkmkdnkdbgeaaRd
namespace Go.Proofs.Ytobkmkdnkdbgeaa
open Go.RowKit Go.Hal
set_option linter.unusedVariables false
set_option linter.unusedSimpArgs false

def intV (x : Int) : Value := .int .i64 x
theorem intV_one (xs : List Int) : ∀ u ∈ xs.map intV, u.oneCell' = true := by
  intro u hu
  obtain ⟨b, -, rfl⟩ := List.mem_map.1 hu
  rfl
theorem ret_bool {a b : Bool} (h : a = b) : Ending.returned (.bool a) = .returned (.bool b) := by rw [h]
/-- A slice of ints that is read. -/
abbrev IntsR (w : World) (v : Value) (xs : List Int) : Prop := SlR w 3 1 xs.length v (xs.map intV)

/-- The lowest n bits of v the other way round. -/
def rev : Nat → Nat → Nat
  | 0, _ => 0
  | i + 1, v => 2 * rev i v + v / 2 ^ i % 2
theorem rev_lt (n v : Nat) : rev n v < 2 ^ n := by
  induction n with
  | zero => simp [rev]
  | succ n ih => simp only [rev, Nat.pow_succ]; omega

theorem or_i64_bit (a b : Nat) (ha : a < 2 ^ 60) (hb : b < 2) : bits .or .i64 (2 * (a : Int)) (b : Int) = ((2 * a + b : Nat) : Int) := by
  have e : 2 * (a : Int) = ((2 * a : Nat) : Int) := by simp
  rw [e, or_i64 _ _ (by omega) (by omega)]
  congr 1
  have := Nat.two_pow_add_eq_or_of_lt (i := 1) (b := b) (by omega) a
  simpa using this.symm

set_option maxHeartbeats 400000 in
theorem turned_any (v n : Nat) (w : World) (hv : v < 2 ^ 40) (hn : n ≤ 32) :
    Calls Try.prog 45 #[.int .i64 v, .int .i64 n] w fun e w' => e = .returned (.int .i64 (rev n v)) ∧ w = w' := by
  go_enter Try.func45, Try.ntmps45
  go_wp2
  go_loop [0, 5, 7] (fun x o i => ∃ k q r : Nat, k ≤ n ∧ q ≤ v ∧ r < 2 ^ 32 ∧ Hid (q = v / 2 ^ k ∧ r = rev k v) ∧ x = .int .i64 q ∧ o = .int .i64 r ∧ i = .int .i64 k) (fun _ _ i => n - (intOf i).toNat)
  case atStart => exact ⟨0, v, 0, by omega, by omega, by omega, ⟨by simp, rfl⟩, rfl, rfl, rfl⟩
  case round =>
    obtain ⟨k, q, r, hk, hq, hr, H, rfl, rfl, rfl⟩ := hrel
    by_cases hlt : k < n
    · go_wp2
      have hr2 := rev_lt (k + 1) v
      have hp : 2 ^ (k + 1) ≤ 2 ^ 32 := Nat.pow_le_pow_right (by omega) (by omega)
      have hs : rev (k + 1) v = 2 * r + q % 2 := by rw [H.out.1, H.out.2]; rfl
      refine ⟨⟨k + 1, q / 2, 2 * r + q % 2, by omega, by omega, by omega, ⟨?_, hs.symm⟩, vi (by omega), vi ?_, vi (by omega)⟩, by simp [intOf]; omega⟩
      · rw [H.out.1, Nat.div_div_eq_div_mul, Nat.pow_succ]
      · rw [and1 _ (by omega) (by omega)]
        have e1 : (r : Int) * 2 = 2 * (r : Int) := by omega
        have e2 : (q : Int) % 2 = ((q % 2 : Nat) : Int) := by omega
        rw [e1, e2, or_i64_bit _ _ (by omega) (by omega)]
    · obtain rfl : k = n := by omega
      go_wp2
      go_ret
      exact ⟨ret_int (by rw [H.out.2]), rfl⟩

/-- The element at a place of a slice that is read. -/
theorem IntsR.cell {w : World} {v : Value} {xs : List Int} (h : IntsR w v xs) : ∃ ao cap, v = .slice ao xs.length cap ∧ xs.length ≤ cap ∧ cap ≤ 9223372036854775807 ∧
    ∀ k (hk : k < xs.length), ∃ b o, ao = some ⟨b, o, none⟩ ∧ b < w.heap.size ∧ w.cell? ⟨b, o + k, none⟩ = some (.int .i64 xs[k]) := by
  obtain ⟨ao, cap, rfl, h1, h2, h3, h4⟩ := h
  refine ⟨ao, cap, rfl, h1, by unfold maxLen at h2; omega, fun k hk => ?_⟩
  obtain ⟨b, o, rfl, hb, hc⟩ := h4 (by omega)
  exact ⟨b, o, rfl, hb, hc k _ (by simp [intV, hk])⟩

theorem closure_any (x : Int) (w : World) : Calls Try.prog 44 #[.int .i64 x] w fun e w' => e = .returned (.bool (decide (x < 0 ∨ 15 < x))) ∧ w = w' := by
  by_cases h : x < 0
  all_goals
    go_enter Try.func44, Try.ntmps44
    go_wp2
    go_ret
    exact ⟨ret_bool (by simp [h] <;> omega), rfl⟩

/-- The first place of an int. -/
def idx (x : Int) : List Int → Int
  | [] => -1
  | y :: r => if x = y then 0 else if idx x r < 0 then -1 else idx x r + 1
theorem idx_neg (x : Int) (xs : List Int) : idx x xs < 0 ↔ x ∉ xs := by
  induction xs with
  | nil => simp [idx]
  | cons y r ih =>
    simp only [idx, List.mem_cons, not_or]
    by_cases h : x = y
    · simp [h]
    · simp only [h, if_false]
      by_cases h2 : idx x r < 0
      · simp [h2, ih.1 h2, h]
      · simp only [h2, if_false]
        have : x ∈ r := Classical.not_not.1 fun hn => h2 (ih.2 hn)
        simp [this]; omega

set_option maxHeartbeats 400000 in
theorem contains_any (x : Int) (v : Value) (xs : List Int) (w : World) (hv : IntsR w v xs) :
    Calls Try.prog 46 #[v, .int .i64 x] w fun e w' => e = .returned (.bool (decide (x ∈ xs))) ∧ w = w' := by
  have key : Calls Try.prog 76 #[v, .int .i64 x] w fun e w' => (∃ i : Int, e = .returned (.int .i64 i) ∧ (0 ≤ i ↔ x ∈ xs) ∧ -1 ≤ i) ∧ w = w' := by
    obtain ⟨ao, cap, rfl, h1, h2, hc⟩ := hv.cell
    have Hc := Lib.hid hc
    clear hc hv
    go_enter Try.func76, Try.ntmps76
    go_wp2
    go_loop [8] (fun i => ∃ k : Nat, k ≤ xs.length ∧ (∀ y ∈ xs.take k, y ≠ x) ∧ i = .int .i64 k) (fun i => xs.length - (intOf i).toNat)
    case atStart => exact ⟨0, by omega, by simp, rfl⟩
    case round =>
      obtain ⟨k, hk, hn, rfl⟩ := hrel
      have Hn := Lib.hid hn
      clear hn
      by_cases hlt : k < xs.length
      · obtain ⟨b, o, rfl, -, hc⟩ := Hc.out k hlt
        by_cases hx : xs[k] = x
        · have hx' : (x == xs[k]) = true := by simp [hx]
          have Hx := Lib.hid hx
          clear hx
          go_wp2
          go_ret
          exact ⟨⟨k, rfl, ⟨fun _ => by rw [← Hx.out]; simp, fun _ => by omega⟩, by omega⟩, rfl⟩
        · have hx' : (x == xs[k]) = false := by simp; exact fun e => hx e.symm
          have Hx := Lib.hid hx
          clear hx
          go_wp2
          refine ⟨⟨k + 1, by omega, ?_, vi (by omega)⟩, by simp [intOf]; omega⟩
          intro y hy
          rw [List.take_succ_eq_append_getElem hlt, List.mem_append] at hy
          rcases hy with hy | hy
          · exact Hn.out y hy
          · simp at hy; subst hy; exact Hx.out
      · obtain rfl : k = xs.length := by omega
        go_wp2
        go_ret
        have := Hn.out
        rw [List.take_length] at this
        exact ⟨⟨-1, rfl, ⟨fun h => by omega, fun h => (this x h rfl).elim⟩, by omega⟩, rfl⟩
  go_enter Try.func46, Try.ntmps46
  go_wp2_with (go_at_call 76; refine key.mono ?_; rintro e w' ⟨⟨i, rfl, h, h2⟩, rfl⟩)
  go_ret
  exact ⟨ret_bool (by simp [h]), rfl⟩

set_option maxHeartbeats 400000 in
theorem containsFunc_any (v : Value) (xs : List Int) (w : World) (hv : IntsR w v xs) :
    Calls Try.prog 43 #[v, .func (.func 44) #[] #[]] w fun e w' => e = .returned (.bool (decide (∃ x ∈ xs, x < 0 ∨ 15 < x))) ∧ w = w' := by
  have key : Calls Try.prog 75 #[v, .func (.func 44) #[] #[]] w fun e w' => (∃ i : Int, e = .returned (.int .i64 i) ∧ (0 ≤ i ↔ ∃ x ∈ xs, x < 0 ∨ 15 < x) ∧ -1 ≤ i) ∧ w = w' := by
    obtain ⟨ao, cap, rfl, h1, h2, hc⟩ := hv.cell
    have Hc := Lib.hid hc
    clear hc hv
    go_enter Try.func75, Try.ntmps75
    go_wp2
    go_loop [8] (fun i => ∃ k : Nat, k ≤ xs.length ∧ (∀ y ∈ xs.take k, ¬ (y < 0 ∨ 15 < y)) ∧ i = .int .i64 k) (fun i => xs.length - (intOf i).toNat)
    case atStart => exact ⟨0, by omega, by simp, rfl⟩
    case round =>
      obtain ⟨k, hk, hn, rfl⟩ := hrel
      have Hn := Lib.hid hn
      clear hn
      by_cases hlt : k < xs.length
      · obtain ⟨b, o, rfl, -, hc⟩ := Hc.out k hlt
        by_cases hx : xs[k] < 0 ∨ 15 < xs[k]
        · have hx' : decide (xs[k] < 0 ∨ 15 < xs[k]) = true := decide_eq_true hx
          have Hx := Lib.hid hx
          have Hxx := Lib.hid hx'
          clear hx hx'
          go_wp2_with (go_at_call 44; refine (closure_any _ _).mono ?_; rw [Hxx.out]; rintro e w' ⟨rfl, rfl⟩)
          go_ret
          exact ⟨⟨k, rfl, ⟨fun _ => ⟨xs[k], by simp, Hx.out⟩, fun _ => by omega⟩, by omega⟩, rfl⟩
        · have hx' : decide (xs[k] < 0 ∨ 15 < xs[k]) = false := decide_eq_false hx
          have Hx := Lib.hid hx
          have Hxx := Lib.hid hx'
          clear hx hx'
          go_wp2_with (go_at_call 44; refine (closure_any _ _).mono ?_; rw [Hxx.out]; rintro e w' ⟨rfl, rfl⟩)
          refine ⟨⟨k + 1, by omega, ?_, vi (by omega)⟩, by simp [intOf]; omega⟩
          intro y hy
          rw [List.take_succ_eq_append_getElem hlt, List.mem_append] at hy
          rcases hy with hy | hy
          · exact Hn.out y hy
          · simp at hy; subst hy; exact Hx.out
      · obtain rfl : k = xs.length := by omega
        go_wp2
        go_ret
        have := Hn.out
        rw [List.take_length] at this
        exact ⟨⟨-1, rfl, ⟨fun h => by omega, fun ⟨x, h1, h2⟩ => (this x h1 h2).elim⟩, by omega⟩, rfl⟩
  go_enter Try.func43, Try.ntmps43
  go_wp2_with (go_at_call 75; refine key.mono ?_; rintro e w' ⟨⟨i, rfl, h, h2⟩, rfl⟩)
  go_ret
  exact ⟨ret_bool (by simp [h]), rfl⟩

end Go.Proofs.Ytobkmkdnkdbgeaa
