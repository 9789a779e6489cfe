/- slices.Clone and slices.Chunk at huff's parcels. -/
import Derived.Test.YtobkmkdnkdbgeaaConcatI
import Derived.Test.YtobkmkdnkdbgeaaChunkP
namespace Go.Proofs.Ytobkmkdnkdbgeaa
open Go.RowKit Go.Hal
set_option linter.unusedVariables false
set_option linter.unusedSimpArgs false

set_option maxRecDepth 100000 in
set_option maxHeartbeats 400000 in
theorem cloneP {w : World} {Rs : List Res} (hS : Sat w Rs) {v : Value} {n : Nat} {xs : List Value} (hv : ∀ w', Sat w' Rs → SlR w' 92 2 n v xs) (h1 : ∀ u ∈ xs, u.oneCell' = true) (hn : n ≤ 1048576) :
    Calls Try.prog 50 #[v] w fun e w' => ∃ v', e = .returned v' ∧ Sat w' (sl 92 2 n v' xs :: Rs) := by
  obtain ⟨ao, cap, rfl, c1, c2, c3, c4⟩ := hv w hS
  have hnil := fun w' => Lib.run_eql_slice_nil (P := Try.prog) w' 90 92 ao n cap 0 0 Try.underlying90
  cases ao with
  | none =>
    have hn0 : n = 0 := by
      rcases Nat.eq_zero_or_pos n with h | h
      · exact h
      · obtain ⟨b, o, h, -⟩ := c4 (by omega); cases h
    subst hn0
    obtain rfl : xs = [] := List.eq_nil_of_length_eq_zero (by simpa using c3)
    clear c4 hv
    go_enter Try.func50, Try.ntmps50
    go_wp2
    go_ret
    exact ⟨_, rfl, hS.sl_nil _ _ _⟩
  | some a =>
    have hsrc := SlR.src (P := Try.prog) (hv _ (hS.alloc_drop (.cells #[] 92))) Try.underlying90 h1
    have Hsrc := Lib.hid hsrc
    obtain ⟨i0, hi, hz0, hz1, hz2⟩ := info_parts Try.infoParcel
    clear c4 hv hsrc
    go_enter Try.func50, Try.ntmps50
    go_wp2_with (at_builtin; refine wpList_append_sat _ rfl _ _ 90 90 rfl 92 i0 (.agg #[.int .i64 0, .slice none 0 0]) 2 32 Try.underlying90 hi hz0 hz1 hz2 rfl (by decide) 0 _ _ _ rfl ((hS.alloc_drop (.cells #[] 92)).sl_nil 92 2 (some _)) n _ _ rfl Hsrc.out ?_ ?_ ?_)
    · unfold maxLen; omega
    · omega
    · intro v' w' hS'
      go_wp2
      go_ret
      exact ⟨v', rfl, hS'⟩

set_option maxHeartbeats 400000 in
theorem chunkP {w : World} {Rs : List Res} (hS : Sat w Rs) (ao : Option Addr) (m cap : Nat) (n : Nat) (h0 : 0 < n) :
    Calls Try.prog 51 #[.slice ao m cap, .int .i64 n] w fun e w' => ∃ bs bn, e = .returned (.func (.func 78) #[] #[.pointer (some ⟨bs, 0, none⟩), .pointer (some ⟨bn, 0, none⟩)]) ∧
      Sat w' (star (blk bs (.cells #[.slice ao m cap] 90 (0, 0))) (blk bn (.cells #[.int .i64 n] 3 (0, 0))) :: Rs) := by
  have hd : decide ((n : Int) < 1) = false := decide_eq_false (by omega)
  go_enter Try.func51, Try.ntmps51
  go_wp2
  go_ret
  refine ⟨_, _, rfl, ?_⟩
  have := (hS.alloc (.cells #[.slice ao m cap] 90)).alloc (.cells #[.int .i64 (n : Int)] 3)
  rw [World.size_alloc] at this
  exact this.swap.star_in

end Go.Proofs.Ytobkmkdnkdbgeaa
