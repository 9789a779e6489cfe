/- The document's inflate: where lengths and distances begin; the fixed codes' lengths; the row. -/
import Derived.Test.YtdpocnkeokplpaaGreatRunT
namespace Go.Proofs.YtdpocnkeokplpaaGreat
open Go.RowKit Go.Hal
set_option linter.unusedVariables false
set_option linter.unusedSimpArgs false

/-- Extra: how many bits stand behind symbol k; where symbol s begins. -/
def exN (first group k : Nat) : Nat := if first ≤ k then (k - first) / group + 1 else 0
def exV (first group least : Nat) : Nat → Nat
  | 0 => least
  | s + 1 => exV first group least s + 2 ^ exN first group s
theorem exV_len : ∀ s, s < 28 → (lenE s).1 = exN 8 4 s ∧ (lenE s).2 = exV 8 4 3 s := by decide +kernel
theorem exV_dis : ∀ s, s < 30 → (disE s).1 = exN 4 2 s ∧ (disE s).2 = exV 4 2 1 s := by decide +kernel
theorem exN_le (first group k : Nat) (hg : 0 < group) : exN first group k ≤ k + 1 := by
  unfold exN
  split
  · have := Nat.div_le_self (k - first) group
    omega
  · omega
theorem exV_le (first group least : Nat) (hg : 2 ≤ group) (hf : 2 ≤ first) : ∀ s, s ≤ 30 → exV first group least s ≤ least + s * 32768
  | 0, _ => by simp [exV]
  | s + 1, h => by
    have h1 := exV_le first group least hg hf s (by omega)
    have h2 : exN first group s ≤ 15 := by
      unfold exN
      split
      · have : (s - first) / group ≤ (s - first) / 2 := Nat.div_le_div_left hg (by omega)
        omega
      · omega
    have h3 : 2 ^ exN first group s ≤ 2 ^ 15 := Nat.pow_le_pow_right (by omega) h2
    simp only [exV]
    omega

set_option maxHeartbeats 1000000 in
theorem extra_any (w : World) (s first group least : Nat) (hs : s ≤ 30) (hg : 2 ≤ group) (hg2 : group ≤ 8) (hf : 2 ≤ first) (hf2 : first ≤ 8) (hl : least ≤ 8) :
    Calls Tryz.prog 103 #[.int .i64 s, .int .i64 first, .int .i64 group, .int .i64 least] w fun e' w' => e' = .returned (.tuple #[.int .i64 (exV first group least s : Nat), .int .i64 (exN first group s : Nat)]) ∧ ∃ n, w' = w.drewN n := by
  have hgz : ((group : Int) == 0) = false := beq_eq_false_iff_ne.2 (by omega)
  have hVle := exV_le first group least hg hf
  have HV := Lib.hid hVle
  clear hVle
  go_enter Tryz.func103, Tryz.ntmps103
  go_wp2
  go_loopw [10, 11] (fun v k wr => ∃ (j x : Nat), j ≤ s ∧ k = .int .i64 j ∧ v = .int .i64 x ∧ Hid (x = exV first group least j) ∧ wr = w) (fun _ k _ => s - (intOf k).toNat)
  case atStart => exact ⟨0, least, by omega, rfl, rfl, rfl, rfl⟩
  case round =>
    obtain ⟨j, x, hj, rfl, rfl, HX, rfl⟩ := hrel
    have hx : x ≤ 1000000 := by have := HV.out j (by omega); rw [← HX.out] at this; omega
    by_cases hjs : j < s
    · have hd : decide (j < s) = true := decide_eq_true hjs
      by_cases hfj : first ≤ j
      · have hd2 : decide (first ≤ j) = true := decide_eq_true hfj
        obtain ⟨q, Hq⟩ : ∃ q, Hid (q = (j - first) / group) := ⟨_, Lib.hid rfl⟩
        have hqv : Int.tdiv ((j : Int) - (first : Int)) (group : Int) = (q : Int) := by
          rw [Hq.out, ← Int.ofNat_sub hfj]; rfl
        have hqv2 : ((j : Int) - (first : Int)) / (group : Int) = (q : Int) := by
          rw [Hq.out, ← Int.ofNat_sub hfj]; rfl
        have hq14 : q ≤ 14 := by
          have : (j - first) / group ≤ (j - first) / 2 := Nat.div_le_div_left hg (by omega)
          rw [Hq.out]; omega
        have hpow : (2 : Nat) ^ (q + 1) ≤ 32768 := Nat.pow_le_pow_right (n := 2) (by omega) (show q + 1 ≤ 15 by omega)
        go_wp2
        refine ⟨⟨j + 1, x + 2 ^ (q + 1), by omega, vi (by omega), ?_, ?_, trivial⟩, by simp [intOf]; omega⟩
        · have e1 : ((2 : Int) ^ (q + 1)) = ((2 ^ (q + 1) : Nat) : Int) := by simp
          rw [e1, add_nat _ _ (by omega) hpow]
        · unfold Hid
          have e2 : exN first group j = q + 1 := by unfold exN; rw [if_pos hfj, Hq.out]
          rw [exV, ← HX.out, e2]
      · have hd2 : decide (first ≤ j) = false := decide_eq_false hfj
        go_wp2
        refine ⟨⟨j + 1, x + 1, by omega, vi (by omega), vi (by omega), ?_, trivial⟩, by simp [intOf]; omega⟩
        unfold Hid
        have e2 : exN first group j = 0 := by unfold exN; rw [if_neg hfj]
        rw [exV, ← HX.out, e2]
    · have hd : decide (j < s) = false := decide_eq_false hjs
      obtain rfl : j = s := by omega
      by_cases hfj : j < first
      · have hd2 : decide (j < first) = true := decide_eq_true hfj
        have hx2 : exV first group least j = x := HX.out.symm
        have hn2 : exN first group j = 0 := by unfold exN; rw [if_neg (by omega)]
        have Hx2 := Lib.hid hx2
        have Hn2 := Lib.hid hn2
        clear hx2 hn2
        go_wp2
        go_ret2
        exact ⟨by rw [Hx2.out, Hn2.out]; rfl, 0, rfl⟩
      · have hd2 : decide (j < first) = false := decide_eq_false hfj
        have hfj2 : first ≤ j := by omega
        obtain ⟨q, Hq⟩ : ∃ q, Hid (q = (j - first) / group) := ⟨_, Lib.hid rfl⟩
        have hqv : Int.tdiv ((j : Int) - (first : Int)) (group : Int) = (q : Int) := by
          rw [Hq.out, ← Int.ofNat_sub hfj2]; rfl
        have hqv2 : ((j : Int) - (first : Int)) / (group : Int) = (q : Int) := by
          rw [Hq.out, ← Int.ofNat_sub hfj2]; rfl
        have hq14 : q ≤ 14 := by
          have : (j - first) / group ≤ (j - first) / 2 := Nat.div_le_div_left hg (by omega)
          rw [Hq.out]; omega
        have hx2 : exV first group least j = x := HX.out.symm
        have hn2 : exN first group j = q + 1 := by unfold exN; rw [if_pos hfj2, Hq.out]
        have Hx2 := Lib.hid hx2
        have Hn2 := Lib.hid hn2
        clear hx2 hn2
        go_wp2
        go_quiet (fail)
        go_wp2
        go_ret2
        exact ⟨by rw [Hx2.out, Hn2.out]; rfl, nq, rfl⟩

set_option maxHeartbeats 400000 in
theorem length_any (w : World) (s : Nat) (hs : s ≤ 28) :
    Calls Tryz.prog 82 #[.int .i64 s] w fun e' w' => e' = .returned (.tuple #[.int .i64 ((lenE s).2 : Nat), .int .i64 ((lenE s).1 : Nat)]) ∧ ∃ n, w' = w.drewN n := by
  by_cases h : s = 28
  · subst h
    go_enter Tryz.func82, Tryz.ntmps82
    go_wp2
    go_ret2
    exact ⟨rfl, 0, rfl⟩
  · have hz : ((s : Int) == 28) = false := beq_eq_false_iff_ne.2 (by omega)
    have he := extra_any w s 8 4 3 (by omega) (by omega) (by omega) (by omega) (by omega) (by omega)
    obtain ⟨e1, e2⟩ := exV_len s (by omega)
    rw [← e1, ← e2] at he
    have He := Lib.hid he
    clear he e1 e2
    go_enter Tryz.func82, Tryz.ntmps82
    go_wp2_with (go_at_call 103; refine He.out.mono ?_; rintro e' w2 ⟨rfl, n, rfl⟩)
    go_ret2
    exact ⟨rfl, n, rfl⟩
set_option maxHeartbeats 400000 in
theorem distance_any (w : World) (s : Nat) (hs : s < 30) :
    Calls Tryz.prog 83 #[.int .i64 s] w fun e' w' => e' = .returned (.tuple #[.int .i64 ((disE s).2 : Nat), .int .i64 ((disE s).1 : Nat)]) ∧ ∃ n, w' = w.drewN n := by
  have he := extra_any w s 4 2 1 (by omega) (by omega) (by omega) (by omega) (by omega) (by omega)
  obtain ⟨e1, e2⟩ := exV_dis s hs
  rw [← e1, ← e2] at he
  have He := Lib.hid he
  clear he e1 e2
  go_enter Tryz.func83, Tryz.ntmps83
  go_wp2_with (go_at_call 103; refine He.out.mono ?_; rintro e' w2 ⟨rfl, n, rfl⟩)
  go_ret2
  exact ⟨rfl, n, rfl⟩

end Go.Proofs.YtdpocnkeokplpaaGreat
