/- slices.Grow and slices.Concat at ints; slices.Clone at huff's parcels. -/
import Derived.Test.YtobkmkdnkdbgeaaSort
import Derived.Lib.AppendZeros
import Derived.Outline
namespace Go.Proofs.Ytobkmkdnkdbgeaa
open Go.RowKit Go.Hal
set_option linter.unusedVariables false
set_option linter.unusedSimpArgs false

theorem Try.infoInt : (Try.prog.info? 3).map (fun i => (i.zero, i.size, i.bytes)) = some (some (.int .i64 0), 1, 8) := by kernel_rfl
theorem Try.infoParcel : (Try.prog.info? 92).map (fun i => (i.zero, i.size, i.bytes)) = some (some (.agg #[.int .i64 0, .slice none 0 0]), 2, 32) := by kernel_rfl

set_option maxRecDepth 100000 in
set_option maxHeartbeats 400000 in
theorem growI_nil {w : World} {Rs : List Res} (hS : Sat w Rs) (n : Nat) (hn : n ≤ 1048576) :
    Calls Try.prog 79 #[.slice none 0 0, .int .i64 n] w fun e w' => ∃ v, e = .returned v ∧ Sat w' (sl 3 1 0 v [] :: Rs) := by
  rcases Nat.eq_zero_or_pos n with h0 | h0
  · subst h0
    go_enter Try.func79, Try.ntmps79
    go_wp2
    go_ret
    exact ⟨_, rfl, hS.sl_nil _ _ _⟩
  · obtain ⟨i0, hi, hz0, hz1, hz2⟩ := info_parts Try.infoInt
    have hrun := Lib.run_append_nil_zeros (P := Try.prog) w 22 3 22 3 i0 (.int .i64 0) .i64 .i64 Try.underlying22 Try.underlying3 hi hz0 n h0 (by omega) (by omega) (by rw [hz2]; omega)
    have hge := grownCap_ge w n 0 3
    have hcm : grownCap w n 0 3 ≤ maxLen := grownCap_le_maxLen w n 0 3 (by unfold maxLen; omega)
    have hS' : Sat (w.drew.alloc (.cells (Builtin.zeroCells (Value.int .i64 0).cells n ++ Builtin.zeroCells (Value.int .i64 0).cells (grownCap w n 0 3 - n)) 3)) (sl 3 1 0 (.slice (some ⟨w.heap.size, 0, none⟩) 0 (grownCap w n 0 3)) [] :: Rs) := by
      refine Sat.sl_made hS.drew (Nat.zero_le _) hcm rfl ?_ (fun j u hu => by simp at hu)
      simp [size_zeroCells, Value.cells]; omega
    generalize (w.drew.alloc (.cells (Builtin.zeroCells (Value.int .i64 0).cells n ++ Builtin.zeroCells (Value.int .i64 0).cells (grownCap w n 0 3 - n)) 3)) = W at hrun hS'
    generalize w.heap.size = b at hrun hS'
    generalize grownCap w n 0 3 = c at hrun hS' hge hcm
    unfold maxLen at hcm
    have hd : decide (0 < (n : Int)) = true := decide_eq_true (by omega)
    go_enter Try.func79, Try.ntmps79
    go_wp2_with (at_builtin; refine Lib.wpList_append_run _ rfl _ _ _ _ rfl _ _ rfl rfl _ _ hrun ?_)
    go_ret
    exact ⟨_, rfl, hS'⟩

def catI (ls : List (Value × List Int)) : List Int := ls.flatMap (·.2)
theorem catI_succ (ls : List (Value × List Int)) (k : Nat) (h : k < ls.length) : catI (ls.take (k + 1)) = catI (ls.take k) ++ ls[k].2 := by
  unfold catI; rw [List.take_succ_eq_append_getElem h, List.flatMap_append]; simp
theorem catI_le (ls : List (Value × List Int)) (k : Nat) : (catI (ls.take k)).length ≤ (catI ls).length := by
  have h : catI ls = catI (ls.take k) ++ catI (ls.drop k) := by
    unfold catI; rw [← List.flatMap_append, List.take_append_drop]
  rw [h, List.length_append]; omega

set_option maxRecDepth 100000 in
set_option maxHeartbeats 1000000 in
/-- Some rows of ints, one behind the other. -/
theorem concatI {w : World} {Rs : List Res} (hS : Sat w Rs) (vs : Value) (ls : List (Value × List Int)) (hvs : ∀ w', Sat w' Rs → SlR w' 22 1 ls.length vs (ls.map (·.1)))
    (hr : ∀ w', Sat w' Rs → ∀ p ∈ ls, IntsR w' p.1 p.2) (hlen : (catI ls).length ≤ 1048576) (hl2 : ls.length ≤ 1048576) :
    Calls Try.prog 52 #[vs] w fun e w' => ∃ v, e = .returned v ∧ Sat w' (sl 3 1 (catI ls).length v ((catI ls).map intV) :: Rs) := by
  obtain ⟨ao, cap, rfl, h1, h2, h3, -⟩ := hvs w hS
  have Hvs := Lib.hid hvs
  have Hr := Lib.hid hr
  have hcells : ∀ w' k, Sat w' Rs → (hk : k < ls.length) → ∃ b o, ao = some ⟨b, o, none⟩ ∧ w'.cell? ⟨b, o + k, none⟩ = some ls[k].1 := by
    intro w' k hS' hk
    obtain ⟨ao', cap', heq, -, -, -, h4⟩ := hvs w' hS'
    simp only [Value.slice.injEq, true_and] at heq
    obtain ⟨rfl, rfl⟩ := heq
    obtain ⟨b, o, rfl, -, hc⟩ := h4 (by omega)
    exact ⟨b, o, rfl, hc k _ (by simp [hk])⟩
  have Hc := Lib.hid hcells
  have hsum : ∀ k, k ≤ ls.length → (catI (ls.take k)).length ≤ (catI ls).length := by
    intro k hk
    exact catI_le ls k
  have Hsum := Lib.hid hsum
  unfold maxLen at h2
  clear hvs hr hcells h3 hsum
  go_enter Try.func52, Try.ntmps52
  go_wp2
  go_loop [3, 11] (fun z i => ∃ k : Nat, k ≤ ls.length ∧ i = .int .i64 k ∧ z = .int .i64 ((catI (ls.take k)).length : Nat)) (fun _ i => ls.length - (intOf i).toNat)
  case atStart => exact ⟨0, by omega, rfl, rfl⟩
  case round =>
    obtain ⟨k, hk, rfl, rfl⟩ := hrel
    have hz1 := Hsum.out k hk
    obtain ⟨z, Hz⟩ : ∃ z, Hid (z = (catI (ls.take k)).length) := ⟨_, rfl⟩
    rw [← Hz.out] at hz1 ⊢
    by_cases hlt : k < ls.length
    · obtain ⟨b, o, rfl, hc⟩ := Hc.out w k hS hlt
      obtain ⟨ao2, cap2, he, g1, g2, -⟩ := (Hr.out w hS ls[k] (List.getElem_mem _)).cell
      rw [he] at hc
      have hz2 := Hsum.out (k + 1) (by omega)
      have hs : (catI (ls.take (k + 1))).length = z + ls[k].2.length := by
        rw [catI_succ ls k hlt, Hz.out, List.length_append]
      have Hs := Lib.hid hs
      rw [hs] at hz2
      clear he hs
      go_wp2
      go_round
      case rel => exact ⟨k + 1, by omega, by go_num, by rw [Hs.out]; go_num⟩
      case measure => simp [intOf]; omega
    · obtain rfl : k = ls.length := by omega
      rw [List.take_length] at Hz
      clear hlt
      go_wp2_with (go_at_call 79; refine (growI_nil hS z (by omega)).mono ?_; rintro e w1 ⟨v0, rfl, hS1⟩)
      go_loopw [6, 27] (fun v i wr => ∃ k : Nat, k ≤ ls.length ∧ i = .int .i64 k ∧ Sat wr (sl 3 1 (catI (ls.take k)).length v ((catI (ls.take k)).map intV) :: Rs)) (fun _ i _ => ls.length - (intOf i).toNat)
      case atStart => exact ⟨0, by omega, rfl, hS1⟩
      case round =>
        obtain ⟨k, hk, rfl, hS2⟩ := hrel
        by_cases hlt : k < ls.length
        · have hS3 := hS2.tail
          obtain ⟨b, o, rfl, hc⟩ := Hc.out wr k hS3 hlt
          have hread := Hr.out wr hS3 ls[k] (List.getElem_mem _)
          have hsrc := SlR.src (P := Try.prog) hread Try.underlying22 (intV_one _)
          have hz2 := Hsum.out (k + 1) (by omega)
          have hs : catI (ls.take (k + 1)) = catI (ls.take k) ++ ls[k].2 := catI_succ ls k hlt
          have Hs := Lib.hid hs
          rw [hs, List.length_append] at hz2
          obtain ⟨i0, hi, hz0, hz1', hz2'⟩ := info_parts Try.infoInt
          clear hs hread
          have hd : decide (k < ls.length) = true := decide_eq_true hlt
          go_wp2_with (at_builtin; refine wpList_append_sat _ rfl _ _ 22 22 rfl 3 i0 (.int .i64 0) 1 8 Try.underlying22 hi hz0 hz1' hz2' rfl (by decide) _ _ _ _ rfl hS2 _ _ _ rfl hsrc ?_ ?_ ?_)
          · unfold maxLen; omega
          · omega
          · intro v' w' hS'
            go_wp2
            go_roundw
            case rel =>
              refine ⟨k + 1, by omega, by go_num, ?_⟩
              rw [Hs.out, List.map_append, List.length_append]
              exact hS'
            case measure => simp [intOf]; omega
        · obtain rfl : k = ls.length := by omega
          have hd : decide (ls.length < ls.length) = false := by simp
          rw [List.take_length] at hS2
          go_wp2
          go_ret
          exact ⟨_, rfl, hS2⟩

end Go.Proofs.Ytobkmkdnkdbgeaa
