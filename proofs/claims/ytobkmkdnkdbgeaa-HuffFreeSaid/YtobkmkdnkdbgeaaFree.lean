/- The law HuffFree: its walk. -/
import Derived.Test.YtobkmkdnkdbgeaaMakes
namespace Go.Proofs.Ytobkmkdnkdbgeaa
open Go.RowKit Go.Hal
set_option linter.unusedVariables false
set_option linter.unusedSimpArgs false

theorem mask_w (z j : Nat) (hz : z < 2 ^ 62) (hj : j ≤ 62) : bits .and .i64 (z : Int) (wrap64 (wrap64 (2 ^ j) - 1)) = ((z % 2 ^ j : Nat) : Int) := by
  have h1 : 2 ^ j ≤ 2 ^ 62 := Nat.pow_le_pow_right (by omega) hj
  have h0 : 0 < 2 ^ j := Nat.two_pow_pos j
  have e2 : ((2 : Int) ^ j) = ((2 ^ j : Nat) : Int) := by simp
  have e3 : wrap64 (wrap64 ((2 : Int) ^ j) - 1) = ((2 ^ j - 1 : Nat) : Int) := by
    rw [e2]
    generalize 2 ^ j = x at *
    have e4 : wrap64 (x : Int) = x := wrap64_id _ (by omega) (by omega)
    rw [e4, wrap64_id _ (by omega) (by omega)]
    omega
  rw [e3, and_i64 _ _ (by omega) (by omega), Nat.and_two_pow_sub_one_eq_mod]

set_option maxRecDepth 100000 in
set_option maxHeartbeats 2000000 in
theorem huffFree_true {w : World} {Rs : List Res} (hS : Sat w Rs) (v : Value) (xs : List Int) (hv : ∀ w', Sat w' Rs → IntsR w' v xs) :
    Calls Try.prog 4 #[v] w fun e w' => e = .returned (.bool true) ∧ Sat w' Rs := by
  have hfix := fixed5_true hS
  obtain ⟨ao, cap, rfl, c1, c2, -⟩ := (hv w hS).cell
  have Hv := Lib.hid hv
  clear hv
  by_cases hck : checkI xs = 0
  · obtain ⟨g1, g2, g3, g4⟩ := checkI_ok hck
    have Hck := Lib.hid hck
    have Hf := Lib.hid g4
    have hlen := natL_length xs
    have Hlen := Lib.hid hlen
    have hcell : ∀ w', Sat w' Rs → ∀ k (hk : k < xs.length), ∃ b o, ao = some ⟨b, o, none⟩ ∧ w'.cell? ⟨b, o + k, none⟩ = some (.int .i64 ((wd (natL xs) k).1 : Nat)) := by
      intro w' h k hk
      obtain ⟨ao', cap', heq, -, -, hc⟩ := (Hv.out w' h).cell
      simp only [Value.slice.injEq, true_and] at heq
      obtain ⟨rfl, rfl⟩ := heq
      obtain ⟨b, o, e, -, hb⟩ := hc k hk
      have hk2 : (natL xs)[k]? = some (xs[k].toNat) := by simp [natL, hk]
      have h0 : 0 ≤ xs[k] := by
        have : xs[k] ∈ natsV (natL xs) := by rw [g2]; exact List.getElem_mem _
        obtain ⟨n, -, hn⟩ := List.mem_map.1 this
        omega
      refine ⟨b, o, e, ?_⟩
      rw [hb, wd_at hk2]
      simp only
      rw [Int.toNat_of_nonneg h0]
    have Hc := Lib.hid hcell
    clear hck g2 g4 hlen hcell
    go_enter Try.func4, Try.ntmps4
    go_wp2_with (first
      | (go_at_call 15; refine hfix.mono ?_; rintro e w1 ⟨rfl, hS1⟩)
      | (go_at_call 16; refine (new_any hS1 _ xs Hv.out).mono ?_; rintro e w2 (⟨-, c, rfl, hS2⟩ | ⟨h, -, -⟩); rotate_left; (exact (h Hck.out).elim)))
    go_loopw [25] (fun i wr => ∃ s : Nat, s ≤ xs.length ∧ i = .int .i64 s ∧ Sat wr (code c (natL xs) :: Rs)) (fun i _ => xs.length - (intOf i).toNat)
    case atStart => exact ⟨0, by omega, rfl, hS2⟩
    case round =>
      obtain ⟨s, hs, rfl, hS3⟩ := hrel
      by_cases hlt : s < xs.length
      · have hd : decide (s < xs.length) = true := decide_eq_true hlt
        obtain ⟨n, hn⟩ : ∃ n, (natL xs)[s]? = some n := ⟨_, List.getElem?_eq_getElem (by rw [Hlen.out]; exact hlt)⟩
        obtain ⟨b, o, rfl, hcs⟩ := Hc.out wr hS3.tail s hlt
        have hn15 : n ≤ 15 := g3 n (List.mem_of_getElem? hn)
        have hwn : wd (natL xs) s = (n, (wd (natL xs) s).2) := by rw [wd_at hn]
        have hvlt := wd_lt (L := natL xs) s
        have hw1 := word_ok hS3 Hck.out s hlt
        rw [hwn] at hcs hvlt hw1
        simp only at hcs hvlt hw1
        obtain ⟨vv, Hvv⟩ : ∃ vv, Hid (vv = (wd (natL xs) s).2) := ⟨_, Lib.hid rfl⟩
        rw [← Hvv.out] at hvlt hw1
        have hv15 : vv < 32768 := Nat.lt_of_lt_of_le hvlt (Nat.le_trans (Nat.pow_le_pow_right (by omega) hn15) (by decide))
        have Hn := Lib.hid hn
        have Hw1 := Lib.hid hw1
        have Hvlt := Lib.hid hvlt
        clear hn hwn hw1 hvlt
        go_wp2_with (go_at_call 18; refine Hw1.out.mono ?_; rintro e w4 ⟨rfl, n4, rfl⟩)
        go_loopw [41] (fun i wq => ∃ t : Nat, t ≤ s ∧ i = .int .i64 t ∧ Sat wq (code c (natL xs) :: Rs)) (fun i _ => s - (intOf i).toNat)
        case atStart => exact ⟨0, by omega, rfl, hS3.drewN n4⟩
        case round =>
          obtain ⟨t, ht, rfl, hS5⟩ := hrel
          by_cases hlt2 : t < s
          · have hd2 : decide (t < s) = true := decide_eq_true hlt2
            obtain ⟨m, hm⟩ : ∃ m, (natL xs)[t]? = some m := ⟨_, List.getElem?_eq_getElem (by rw [Hlen.out]; omega)⟩
            have hm15 : m ≤ 15 := g3 m (List.mem_of_getElem? hm)
            have hwn : wd (natL xs) t = (m, (wd (natL xs) t).2) := by rw [wd_at hm]
            have hvlt := wd_lt (L := natL xs) t
            have hw2 := word_ok hS5 Hck.out t (by omega)
            rw [hwn] at hvlt hw2
            simp only at hvlt hw2
            obtain ⟨uu, Huu⟩ : ∃ uu, Hid (uu = (wd (natL xs) t).2) := ⟨_, Lib.hid rfl⟩
            rw [← Huu.out] at hvlt hw2
            have hu15 : uu < 32768 := Nat.lt_of_lt_of_le hvlt (Nat.le_trans (Nat.pow_le_pow_right (by omega) hm15) (by decide))
            have Hm := Lib.hid hm
            have Hw2 := Lib.hid hw2
            have Hult := Lib.hid hvlt
            clear hm hwn hw2 hvlt
            have hfree : 0 < min n m → ¬ vv % 2 ^ (min n m) = uu % 2 ^ (min n m) := by
              intro h0 he
              rcases Nat.le_total n m with h | h
              · rw [Nat.min_eq_left h] at he h0
                rw [Nat.mod_eq_of_lt Hvlt.out, Hvv.out, Huu.out] at he
                have := wd_free Hf.out Hn.out Hm.out h0 h he.symm
                omega
              · rw [Nat.min_eq_right h] at he h0
                rw [Nat.mod_eq_of_lt Hult.out, Hvv.out, Huu.out] at he
                have := wd_free Hf.out Hm.out Hn.out h0 h he
                omega
            have Hfree := Lib.hid hfree
            clear hfree
            by_cases hmn : m < n
            · have hne : 0 < m → (bits .and .i64 (vv : Int) (wrap64 (wrap64 (2 ^ m) - 1)) == bits .and .i64 (uu : Int) (wrap64 (wrap64 (2 ^ m) - 1))) = false := by
                intro h0
                have h1 := Hfree.out (by omega)
                rw [Nat.min_eq_right (by omega)] at h1
                rw [mask_w _ _ (by omega) (by omega), mask_w _ _ (by omega) (by omega)]
                exact beq_eq_false_iff_ne.2 (fun e => h1 (by exact_mod_cast e))
              by_cases h0 : 0 < m
              · have hne' := hne h0
                clear hne
                go_wp2_with (go_at_call 18; refine Hw2.out.mono ?_; rintro e w6 ⟨rfl, n6, rfl⟩)
                go_roundw
                case rel => exact ⟨t + 1, by omega, by go_num, hS5.drewN _⟩
                case measure => simp [intOf]; omega
              · clear hne
                have hd3 : decide (0 < m) = false := decide_eq_false h0
                go_wp2_with (go_at_call 18; refine Hw2.out.mono ?_; rintro e w6 ⟨rfl, n6, rfl⟩)
                go_roundw
                case rel => exact ⟨t + 1, by omega, by go_num, hS5.drewN _⟩
                case measure => simp [intOf]; omega
            · have hne : 0 < n → (bits .and .i64 (vv : Int) (wrap64 (wrap64 (2 ^ n) - 1)) == bits .and .i64 (uu : Int) (wrap64 (wrap64 (2 ^ n) - 1))) = false := by
                intro h0
                have h1 := Hfree.out (by omega)
                rw [Nat.min_eq_left (by omega)] at h1
                rw [mask_w _ _ (by omega) (by omega), mask_w _ _ (by omega) (by omega)]
                exact beq_eq_false_iff_ne.2 (fun e => h1 (by exact_mod_cast e))
              by_cases h0 : 0 < n
              · have hne' := hne h0
                clear hne
                go_wp2_with (go_at_call 18; refine Hw2.out.mono ?_; rintro e w6 ⟨rfl, n6, rfl⟩)
                go_roundw
                case rel => exact ⟨t + 1, by omega, by go_num, hS5.drewN _⟩
                case measure => simp [intOf]; omega
              · clear hne
                have hd3 : decide (0 < n) = false := decide_eq_false h0
                go_wp2_with (go_at_call 18; refine Hw2.out.mono ?_; rintro e w6 ⟨rfl, n6, rfl⟩)
                go_roundw
                case rel => exact ⟨t + 1, by omega, by go_num, hS5.drewN _⟩
                case measure => simp [intOf]; omega
          · obtain rfl : t = s := by omega
            have hd2 : decide (t < t) = false := by simp
            go_wp2
            go_roundw
            case rel => exact ⟨t + 1, by omega, by go_num, hS5⟩
            case measure => simp [intOf]; omega
      · obtain rfl : s = xs.length := by omega
        have hd : decide (xs.length < xs.length) = false := by simp
        go_wp2
        go_ret
        exact ⟨rfl, hS3.tail⟩
  · have Hck := Lib.hid hck
    have hz0 : ((checkI xs : Int) != 0) = true := by simp; omega
    obtain ⟨z, Hz⟩ : ∃ z, Hid (z = checkI xs) := ⟨_, Lib.hid rfl⟩
    rw [← Hz.out] at hz0
    clear hck
    go_enter Try.func4, Try.ntmps4
    go_wp2_with (first
      | (go_at_call 15; refine hfix.mono ?_; rintro e w1 ⟨rfl, hS1⟩)
      | (go_at_call 16; refine (new_any hS1 _ xs Hv.out).mono ?_; rintro e w2 (⟨h, -, -, -⟩ | ⟨-, rfl, hS2⟩); (exact (Hck.out h).elim); rw [← Hz.out]))
    go_ret
    exact ⟨rfl, hS2⟩

end Go.Proofs.Ytobkmkdnkdbgeaa
