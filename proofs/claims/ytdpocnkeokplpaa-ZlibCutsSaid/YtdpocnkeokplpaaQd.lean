/- slices.Grow and slices.Concat at ints; slices.Clone at huff's parcels. slices.Chunk at huff's parcels. slices.Clone and slices.Chunk at huff's parcels. huff.Lengths: what it computes, in plain lists. Slices that are read from now on: one resource for all of them, whether they share memory or not. -/
import Derived.Test.YtdpocnkeokplpaaQc
import Derived.Lib.AppendZeros
import Derived.Outline
import Derived.Test.YtdpocnkeokplpaaQa
import Derived.Deep.QuietTactic
import Derived.BigQuiet
import Derived.Test.YtdpocnkeokplpaaProg
namespace Go.Proofs.Ytdpocnkeokplpaa
open Go.RowKit Go.Hal
set_option linter.unusedVariables false
set_option linter.unusedSimpArgs false

theorem Try.infoInt : (Try.prog.info? 3).map (fun i => (i.zero, i.size, i.bytes)) = some (some (.int .i64 0), 1, 8) := by kernel_rfl
theorem Try.infoParcel : (Try.prog.info? 137).map (fun i => (i.zero, i.size, i.bytes)) = some (some (.agg #[.int .i64 0, .slice none 0 0]), 2, 32) := by kernel_rfl

set_option maxRecDepth 100000 in
set_option maxHeartbeats 400000 in
theorem growI_nil {w : World} {Rs : List Res} (hS : Sat w Rs) (n : Nat) (hn : n ≤ 1048576) :
    Calls Try.prog 108 #[.slice none 0 0, .int .i64 n] w fun e w' => ∃ v, e = .returned v ∧ Sat w' (sl 3 1 0 v [] :: Rs) := by
  rcases Nat.eq_zero_or_pos n with h0 | h0
  · subst h0
    go_enter Try.func108, Try.ntmps108
    go_wp2
    go_ret
    exact ⟨_, rfl, hS.sl_nil _ _ _⟩
  · obtain ⟨i0, hi, hz0, hz1, hz2⟩ := info_parts Try.infoInt
    have hrun := Lib.run_append_nil_zeros (P := Try.prog) w 28 3 28 3 i0 (.int .i64 0) .i64 .i64 Try.underlying28 Try.underlying3 hi hz0 n h0 (by omega) (by omega) (by rw [hz2]; omega)
    have hge := grownCap_ge w n 0 3
    have hcm : grownCap w n 0 3 ≤ maxLen := grownCap_le_maxLen w n 0 3 (by unfold maxLen; omega)
    have hS' : Sat (w.drew.alloc (.cells (Builtin.zeroCells (Value.int .i64 0).cells n ++ Builtin.zeroCells (Value.int .i64 0).cells (grownCap w n 0 3 - n)) 3)) (sl 3 1 0 (.slice (some ⟨w.heap.size, 0, none⟩) 0 (grownCap w n 0 3)) [] :: Rs) := by
      refine Sat.sl_made hS.drew (Nat.zero_le _) hcm rfl ?_ (fun j u hu => by simp at hu)
      simp [size_zeroCells, Value.cells]; omega
    generalize (w.drew.alloc (.cells (Builtin.zeroCells (Value.int .i64 0).cells n ++ Builtin.zeroCells (Value.int .i64 0).cells (grownCap w n 0 3 - n)) 3)) = W at hrun hS'
    generalize w.heap.size = b at hrun hS'
    generalize grownCap w n 0 3 = c at hrun hS' hge hcm
    unfold maxLen at hcm
    have hd : decide (0 < (n : Int)) = true := decide_eq_true (by omega)
    go_enter Try.func108, Try.ntmps108
    go_wp2_with (at_builtin; refine Lib.wpList_append_run _ rfl _ _ _ _ rfl _ _ rfl rfl _ _ hrun ?_)
    go_ret
    exact ⟨_, rfl, hS'⟩

def catI (ls : List (Value × List Int)) : List Int := ls.flatMap (·.2)
theorem catI_succ (ls : List (Value × List Int)) (k : Nat) (h : k < ls.length) : catI (ls.take (k + 1)) = catI (ls.take k) ++ ls[k].2 := by
  unfold catI; rw [List.take_succ_eq_append_getElem h, List.flatMap_append]; simp
theorem catI_le (ls : List (Value × List Int)) (k : Nat) : (catI (ls.take k)).length ≤ (catI ls).length := by
  have h : catI ls = catI (ls.take k) ++ catI (ls.drop k) := by
    unfold catI; rw [← List.flatMap_append, List.take_append_drop]
  rw [h, List.length_append]; omega

set_option maxRecDepth 100000 in
set_option maxHeartbeats 1000000 in
/-- Some rows of ints, one behind the other. -/
theorem concatI {w : World} {Rs : List Res} (hS : Sat w Rs) (vs : Value) (ls : List (Value × List Int)) (hvs : ∀ w', Sat w' Rs → SlR w' 28 1 ls.length vs (ls.map (·.1)))
    (hr : ∀ w', Sat w' Rs → ∀ p ∈ ls, IntsR w' p.1 p.2) (hlen : (catI ls).length ≤ 1048576) (hl2 : ls.length ≤ 1048576) :
    Calls Try.prog 97 #[vs] w fun e w' => ∃ v, e = .returned v ∧ Sat w' (sl 3 1 (catI ls).length v ((catI ls).map intV) :: Rs) := by
  obtain ⟨ao, cap, rfl, h1, h2, h3, -⟩ := hvs w hS
  have Hvs := Lib.hid hvs
  have Hr := Lib.hid hr
  have hcells : ∀ w' k, Sat w' Rs → (hk : k < ls.length) → ∃ b o, ao = some ⟨b, o, none⟩ ∧ w'.cell? ⟨b, o + k, none⟩ = some ls[k].1 := by
    intro w' k hS' hk
    obtain ⟨ao', cap', heq, -, -, -, h4⟩ := hvs w' hS'
    simp only [Value.slice.injEq, true_and] at heq
    obtain ⟨rfl, rfl⟩ := heq
    obtain ⟨b, o, rfl, -, hc⟩ := h4 (by omega)
    exact ⟨b, o, rfl, hc k _ (by simp [hk])⟩
  have Hc := Lib.hid hcells
  have hsum : ∀ k, k ≤ ls.length → (catI (ls.take k)).length ≤ (catI ls).length := by
    intro k hk
    exact catI_le ls k
  have Hsum := Lib.hid hsum
  unfold maxLen at h2
  clear hvs hr hcells h3 hsum
  go_enter Try.func97, Try.ntmps97
  go_wp2
  go_loop [3, 11] (fun z i => ∃ k : Nat, k ≤ ls.length ∧ i = .int .i64 k ∧ z = .int .i64 ((catI (ls.take k)).length : Nat)) (fun _ i => ls.length - (intOf i).toNat)
  case atStart => exact ⟨0, by omega, rfl, rfl⟩
  case round =>
    obtain ⟨k, hk, rfl, rfl⟩ := hrel
    have hz1 := Hsum.out k hk
    obtain ⟨z, Hz⟩ : ∃ z, Hid (z = (catI (ls.take k)).length) := ⟨_, rfl⟩
    rw [← Hz.out] at hz1 ⊢
    by_cases hlt : k < ls.length
    · obtain ⟨b, o, rfl, hc⟩ := Hc.out w k hS hlt
      obtain ⟨ao2, cap2, he, g1, g2, -⟩ := (Hr.out w hS ls[k] (List.getElem_mem _)).cell
      rw [he] at hc
      have hz2 := Hsum.out (k + 1) (by omega)
      have hs : (catI (ls.take (k + 1))).length = z + ls[k].2.length := by
        rw [catI_succ ls k hlt, Hz.out, List.length_append]
      have Hs := Lib.hid hs
      rw [hs] at hz2
      clear he hs
      go_wp2
      go_round
      case rel => exact ⟨k + 1, by omega, by go_num, by rw [Hs.out]; go_num⟩
      case measure => simp [intOf]; omega
    · obtain rfl : k = ls.length := by omega
      rw [List.take_length] at Hz
      clear hlt
      go_wp2_with (go_at_call 108; refine (growI_nil hS z (by omega)).mono ?_; rintro e w1 ⟨v0, rfl, hS1⟩)
      go_loopw [6, 27] (fun v i wr => ∃ k : Nat, k ≤ ls.length ∧ i = .int .i64 k ∧ Sat wr (sl 3 1 (catI (ls.take k)).length v ((catI (ls.take k)).map intV) :: Rs)) (fun _ i _ => ls.length - (intOf i).toNat)
      case atStart => exact ⟨0, by omega, rfl, hS1⟩
      case round =>
        obtain ⟨k, hk, rfl, hS2⟩ := hrel
        by_cases hlt : k < ls.length
        · have hS3 := hS2.tail
          obtain ⟨b, o, rfl, hc⟩ := Hc.out wr k hS3 hlt
          have hread := Hr.out wr hS3 ls[k] (List.getElem_mem _)
          have hsrc := SlR.src (P := Try.prog) hread Try.underlying28 (intV_one _)
          have hz2 := Hsum.out (k + 1) (by omega)
          have hs : catI (ls.take (k + 1)) = catI (ls.take k) ++ ls[k].2 := catI_succ ls k hlt
          have Hs := Lib.hid hs
          rw [hs, List.length_append] at hz2
          obtain ⟨i0, hi, hz0, hz1', hz2'⟩ := info_parts Try.infoInt
          clear hs hread
          have hd : decide (k < ls.length) = true := decide_eq_true hlt
          go_wp2_with (at_builtin; refine wpList_append_sat _ rfl _ _ 28 28 rfl 3 i0 (.int .i64 0) 1 8 Try.underlying28 hi hz0 hz1' hz2' rfl (by decide) _ _ _ _ rfl hS2 _ _ _ rfl hsrc ?_ ?_ ?_)
          · unfold maxLen; omega
          · omega
          · intro v' w' hS'
            go_wp2
            go_roundw
            case rel =>
              refine ⟨k + 1, by omega, by go_num, ?_⟩
              rw [Hs.out, List.map_append, List.length_append]
              exact hS'
            case measure => simp [intOf]; omega
        · obtain rfl : k = ls.length := by omega
          have hd : decide (ls.length < ls.length) = false := by simp
          rw [List.take_length] at hS2
          go_wp2
          go_ret
          exact ⟨_, rfl, hS2⟩

end Go.Proofs.Ytdpocnkeokplpaa

namespace Go.Proofs.Ytdpocnkeokplpaa
open Go.RowKit Go.Hal
set_option linter.unusedVariables false
set_option linter.unusedSimpArgs false

/-- The pieces of n elements of a slice of N elements. -/
def piecesV (b off size n N : Nat) : List Value := (List.range ((N + n - 1) / n)).map fun k => .slice (some ⟨b, off + k * n * size, none⟩) (min n (N - k * n)) (min n (N - k * n))

theorem piece_at {b off size n N : Nat} (hn : 0 < n) {pre : List Value} {x : Value} (h : (pre ++ [x]) <+: piecesV b off size n N) :
    pre.length * n < N ∧ x = .slice (some ⟨b, off + pre.length * n * size, none⟩) (min n (N - pre.length * n)) (min n (N - pre.length * n)) := by
  obtain ⟨r, hr⟩ := h
  have hx : (piecesV b off size n N)[pre.length]? = some x := by rw [← hr]; simp
  have hlt := (List.getElem?_eq_some_iff.1 hx).1
  unfold piecesV at hx hlt
  simp only [List.length_map, List.length_range] at hlt
  rw [List.getElem?_map, List.getElem?_range hlt] at hx
  simp only [Option.map_some, Option.some.injEq] at hx
  refine ⟨?_, hx.symm⟩
  rw [Nat.lt_div_iff_mul_lt hn] at hlt
  omega
theorem piecesV_length (b off size n N : Nat) : (piecesV b off size n N).length = (N + n - 1) / n := by simp [piecesV]

attribute [local go_sem] Oper.semAt_some

set_option maxRecDepth 100000 in
set_option maxHeartbeats 1000000 in
theorem chunk1_seq (ao : Option Addr) (b off n N cap bs bn : Nat) (hao : 0 < N → ao = some ⟨b, off, none⟩) (hn : 0 < n) (hN : N ≤ cap) (hcap : cap ≤ 9223372036854775807) (hNb : N ≤ 281474976710656) (hn2 : n ≤ 1048576) :
    SeqSat Try.prog 107 #[.pointer (some ⟨bs, 0, none⟩), .pointer (some ⟨bn, 0, none⟩)] (fun v : Value => #[v]) (piecesV b off 2 n N)
      (star (blk bs (.cells #[.slice ao N cap] 135 (0, 0))) (blk bn (.cells #[.int .i64 n] 3 (0, 0)))) := by
  intro l J Jx w hY h0
  refine callsIn_of_wp Try.func107 rfl trivial ?_ rfl
  simp only [Try.ntmps107, List.size_toArray, List.length_cons, List.length_nil, Nat.reduceAdd, Nat.reduceSub, Array.replicate_succ, Array.replicate_zero, List.push_toArray, List.append_toArray, List.nil_append, List.cons_append]
  have hK : ∀ k, k < (N + n - 1) / n ↔ k * n < N := by
    intro k
    rw [Nat.lt_div_iff_mul_lt hn]
    omega
  have HK := Lib.hid hK
  have HY := Lib.hid hY
  have hlen : (piecesV b off 2 n N).length = (N + n - 1) / n := by simp [piecesV]
  have Hlen := Lib.hid hlen
  clear hK hY hlen
  gi_wp2
  gi_loopw [4] (fun i wr => ∃ k : Nat, k ≤ (N + n - 1) / n ∧ i = .int .i64 ((k * n : Nat) : Int) ∧ Sat wr (star (blk bs (.cells #[.slice ao N cap] 135 (0, 0))) (blk bn (.cells #[.int .i64 n] 3 (0, 0))) :: J ((piecesV b off 2 n N).take k))) (fun i _ => N + n - (intOf i).toNat)
  case atStart => exact ⟨0, Nat.zero_le _, by simp, by simpa using h0⟩
  case round =>
    obtain ⟨k, hk, rfl, hS⟩ := hrel
    have hS2 := hS.star_out
    have hb1 := (hS2.at_ 0 _ rfl).choose_spec.2
    have hb2 := (hS2.at_ 1 _ rfl).choose_spec.2
    have q1 : wr.cell? ⟨bs, 0, none⟩ = some (.slice ao N cap) := by rw [cell_of_row wr bs 0 _ _ _ hb1]; rfl
    have q2 : wr.cell? ⟨bn, 0, none⟩ = some (.int .i64 n) := by rw [cell_of_row wr bn 0 _ _ _ hb2]; rfl
    clear hb1 hb2 hS2
    obtain ⟨i, Hi⟩ : ∃ i, Hid (i = k * n) := ⟨_, rfl⟩
    rw [← Hi.out]
    by_cases hlt : i < N
    · obtain rfl := hao (by omega)
      clear hao
      have hkK : k < (N + n - 1) / n := (HK.out k).2 (by rw [← Hi.out]; exact hlt)
      have hd : decide (i < N) = true := decide_eq_true hlt
      obtain ⟨m, Hm⟩ : ∃ m, Hid (m = min n (N - i)) := ⟨_, rfl⟩
      have hm1 : m ≤ N - i := by rw [Hm.out]; omega
      have hm0 : 0 < m := by rw [Hm.out]; omega
      have hmn : min (n : Int) ((N : Int) - i) = m := by rw [Hm.out]; omega
      have hpre : (piecesV b off 2 n N).take k ++ [.slice (some ⟨b, off + i * 2, none⟩) m m] = (piecesV b off 2 n N).take (k + 1) := by
        rw [List.take_succ_eq_append_getElem (by rw [Hlen.out]; exact hkK)]
        simp only [piecesV, List.getElem_map, List.getElem_range, Hm.out, Hi.out]
      have Hpre := Lib.hid hpre
      clear hpre
      gi_wp2
      refine wpIn_wide.2 ?_
      go_quiet (fail)
      gi_wp2
      all_goals
        first
          | rw [show ((i : Int) + n).toNat - i = m by rw [Hm.out]; omega]
          | rw [show ((i : Int) + ((N - i : Nat) : Int)).toNat - i = m by rw [Hm.out]; omega]
        obtain ⟨fn, tmps, assign, body, hy, hR⟩ := HY.out ((piecesV b off 2 n N).take k) (.slice (some ⟨b, off + i * 2, none⟩) m m) (by rw [Hpre.out]; exact List.take_prefix _ _) (wr.drewN nq) (hS.drewN nq)
        rw [hy]
        simp only [Oper.uponIn_round]
        refine ⟨fun h => by simp [Fence.wide] at h, ?_⟩
        refine hR.mono ?_
        rintro e W3 (⟨rfl, hJ3⟩ | ⟨rfl, hJx3⟩)
        · rw [Hpre.out] at hJ3
          have hS3 := hJ3.star_out
          have hb1 := (hS3.at_ 0 _ rfl).choose_spec.2
          have hb2 := (hS3.at_ 1 _ rfl).choose_spec.2
          have q1 : W3.cell? ⟨bs, 0, none⟩ = some (.slice (some ⟨b, off, none⟩) N cap) := by rw [cell_of_row W3 bs 0 _ _ _ hb1]; rfl
          have q2 : W3.cell? ⟨bn, 0, none⟩ = some (.int .i64 n) := by rw [cell_of_row W3 bn 0 _ _ _ hb2]; rfl
          clear hb1 hb2 hS3
          gi_wp2
          go_roundw
          case rel => exact ⟨k + 1, by omega, by rw [Nat.add_mul, Nat.one_mul, ← Hi.out]; go_num, hJ3⟩
          case measure => simp [intOf]; omega
        · gi_wp2
          refine bodyPost_ret (results_none rfl _ _ _) rfl ?_
          exact ⟨⟨_, rfl⟩, .inr ⟨_, List.take_prefix _ _, by rw [← Hpre.out]; exact hJx3⟩⟩
    · have hd : decide (i < N) = false := decide_eq_false hlt
      have hkK : k = (N + n - 1) / n := by
        have := mt (HK.out k).1 (by rw [← Hi.out]; exact hlt)
        omega
      have Hk := Lib.hid hkK
      clear hkK
      gi_wp2
      go_end0
      refine ⟨⟨_, rfl⟩, .inl ?_⟩
      rw [Hk.out, ← Hlen.out, List.take_length] at hS
      exact hS

end Go.Proofs.Ytdpocnkeokplpaa

namespace Go.Proofs.Ytdpocnkeokplpaa
open Go.RowKit Go.Hal
set_option linter.unusedVariables false
set_option linter.unusedSimpArgs false

set_option maxRecDepth 100000 in
set_option maxHeartbeats 400000 in
theorem cloneP {w : World} {Rs : List Res} (hS : Sat w Rs) {v : Value} {n : Nat} {xs : List Value} (hv : ∀ w', Sat w' Rs → SlR w' 137 2 n v xs) (h1 : ∀ u ∈ xs, u.oneCell' = true) (hn : n ≤ 1048576) :
    Calls Try.prog 95 #[v] w fun e w' => ∃ v', e = .returned v' ∧ Sat w' (sl 137 2 n v' xs :: Rs) := by
  obtain ⟨ao, cap, rfl, c1, c2, c3, c4⟩ := hv w hS
  have hnil := fun w' => Lib.run_eql_slice_nil (P := Try.prog) w' 135 137 ao n cap 0 0 Try.underlying135
  cases ao with
  | none =>
    have hn0 : n = 0 := by
      rcases Nat.eq_zero_or_pos n with h | h
      · exact h
      · obtain ⟨b, o, h, -⟩ := c4 (by omega); cases h
    subst hn0
    obtain rfl : xs = [] := List.eq_nil_of_length_eq_zero (by simpa using c3)
    clear c4 hv
    go_enter Try.func95, Try.ntmps95
    go_wp2
    go_ret
    exact ⟨_, rfl, hS.sl_nil _ _ _⟩
  | some a =>
    have hsrc := SlR.src (P := Try.prog) (hv _ (hS.alloc_drop (.cells #[] 137))) Try.underlying135 h1
    have Hsrc := Lib.hid hsrc
    obtain ⟨i0, hi, hz0, hz1, hz2⟩ := info_parts Try.infoParcel
    clear c4 hv hsrc
    go_enter Try.func95, Try.ntmps95
    go_wp2_with (at_builtin; refine wpList_append_sat _ rfl _ _ 135 135 rfl 137 i0 (.agg #[.int .i64 0, .slice none 0 0]) 2 32 Try.underlying135 hi hz0 hz1 hz2 rfl (by decide) 0 _ _ _ rfl ((hS.alloc_drop (.cells #[] 137)).sl_nil 137 2 (some _)) n _ _ rfl Hsrc.out ?_ ?_ ?_)
    · unfold maxLen; omega
    · omega
    · intro v' w' hS'
      go_wp2
      go_ret
      exact ⟨v', rfl, hS'⟩

set_option maxHeartbeats 400000 in
theorem chunkP {w : World} {Rs : List Res} (hS : Sat w Rs) (ao : Option Addr) (m cap : Nat) (n : Nat) (h0 : 0 < n) :
    Calls Try.prog 96 #[.slice ao m cap, .int .i64 n] w fun e w' => ∃ bs bn, e = .returned (.func (.func 107) #[] #[.pointer (some ⟨bs, 0, none⟩), .pointer (some ⟨bn, 0, none⟩)]) ∧
      Sat w' (star (blk bs (.cells #[.slice ao m cap] 135 (0, 0))) (blk bn (.cells #[.int .i64 n] 3 (0, 0))) :: Rs) := by
  have hd : decide ((n : Int) < 1) = false := decide_eq_false (by omega)
  go_enter Try.func96, Try.ntmps96
  go_wp2
  go_ret
  refine ⟨_, _, rfl, ?_⟩
  have := (hS.alloc (.cells #[.slice ao m cap] 135)).alloc (.cells #[.int .i64 (n : Int)] 3)
  rw [World.size_alloc] at this
  exact this.swap.star_in

end Go.Proofs.Ytdpocnkeokplpaa

namespace Go.Hal
set_option linter.unusedVariables false
set_option linter.unusedSimpArgs false

/-- x goes to the left, past all that cost more. -/
def insG {α : Type} (c : α → Int) (x : α) (l : List α) : List α := (l.reverse.dropWhile (fun y => decide (c x < c y))).reverse ++ x :: (l.reverse.takeWhile (fun y => decide (c x < c y))).reverse
/-- In the order of their costs; equal ones stay in their order. -/
def sortG {α : Type} (c : α → Int) (l : List α) : List α := l.foldl (fun acc x => insG c x acc) []

theorem insG_map {α β : Type} (f : α → β) (c : α → Int) (d : β → Int) (h : ∀ x, d (f x) = c x) (x : α) (l : List α) : (insG c x l).map f = insG d (f x) (l.map f) := by
  unfold insG
  have e : ((fun y => decide (d (f x) < d y)) ∘ f) = (fun y => decide (c x < c y)) := by
    funext y; simp [h]
  simp only [List.map_append, List.map_cons, List.map_reverse, ← List.map_reverse, List.dropWhile_map, List.takeWhile_map, e]
theorem sortG_map {α β : Type} (f : α → β) (c : α → Int) (d : β → Int) (h : ∀ x, d (f x) = c x) (l : List α) : (sortG c l).map f = sortG d (l.map f) := by
  unfold sortG
  suffices g : ∀ (l acc : List α), (l.foldl (fun acc x => insG c x acc) acc).map f = (l.map f).foldl (fun acc x => insG d x acc) (acc.map f) by simpa using g l []
  intro l
  induction l with
  | nil => intro acc; rfl
  | cons x r ih => intro acc; simp only [List.foldl_cons, List.map_cons, ih, insG_map f c d h]

theorem mem_insG {α : Type} (c : α → Int) (x y : α) (l : List α) : y ∈ insG c x l ↔ y = x ∨ y ∈ l := by
  unfold insG
  have h : y ∈ l ↔ y ∈ (l.reverse.takeWhile (fun y => decide (c x < c y))) ∨ y ∈ (l.reverse.dropWhile (fun y => decide (c x < c y))) := by
    rw [← List.mem_append, List.takeWhile_append_dropWhile, List.mem_reverse]
  simp only [List.mem_append, List.mem_cons, List.mem_reverse, h]
  constructor
  · rintro (h | h | h)
    · exact .inr (.inr h)
    · exact .inl h
    · exact .inr (.inl h)
  · rintro (h | h | h)
    · exact .inr (.inl h)
    · exact .inr (.inr h)
    · exact .inl h
theorem mem_sortG {α : Type} (c : α → Int) (y : α) (l : List α) : y ∈ sortG c l ↔ y ∈ l := by
  unfold sortG
  suffices h : ∀ (l acc : List α), y ∈ l.foldl (fun acc x => insG c x acc) acc ↔ y ∈ acc ∨ y ∈ l by simpa using h l []
  intro l
  induction l with
  | nil => simp
  | cons z r ih =>
    intro acc
    simp only [List.foldl_cons, ih, mem_insG, List.mem_cons]
    constructor
    · rintro ((h | h) | h)
      · exact .inr (.inl h)
      · exact .inl h
      · exact .inr (.inr h)
    · rintro (h | h | h)
      · exact .inl (.inr h)
      · exact .inl (.inl h)
      · exact .inr h
theorem insG_length {α : Type} (c : α → Int) (x : α) (l : List α) : (insG c x l).length = l.length + 1 := by
  unfold insG
  have h := congrArg List.length (List.takeWhile_append_dropWhile (p := fun y => decide (c x < c y)) (l := l.reverse))
  simp only [List.length_append, List.length_reverse, List.length_cons] at h ⊢
  omega
theorem sortG_length {α : Type} (c : α → Int) (l : List α) : (sortG c l).length = l.length := by
  unfold sortG
  suffices h : ∀ (l acc : List α), (l.foldl (fun acc x => insG c x acc) acc).length = acc.length + l.length by simpa using h l []
  intro l
  induction l with
  | nil => simp
  | cons y r ih => intro acc; simp only [List.foldl_cons, ih, insG_length, List.length_cons]; omega

/-- A parcel: what it costs, and its symbols. -/
abbrev Pc := Int × List Int
/-- Symbols that have a count. -/
def firstM (cs : List Int) : List Pc := (List.range cs.length).filterMap fun s : Nat => match cs[s]? with
  | some n => if 0 < n then some (n, [(s : Int)]) else none
  | none => none
def pairsM : List Pc → List Pc
  | a :: b :: r => (a.1 + b.1, a.2 ++ b.2) :: pairsM r
  | _ => []
def rowM (f : List Pc) : Nat → List Pc
  | 0 => f
  | k + 1 => sortG Prod.fst (f ++ pairsM (rowM f k))
def countM (N : Nat) (l : List Int) : List Int := (List.range N).map fun s : Nat => (l.count (s : Int) : Int)
/-- The lengths. -/
def lensM (cs : List Int) (most : Nat) : List Int :=
  countM cs.length (if (firstM cs).length = 1 then (firstM cs).flatMap (·.2) else ((rowM (sortG Prod.fst (firstM cs)) (most - 1)).take (2 * (firstM cs).length - 2)).flatMap (·.2))

theorem pairsM_length : ∀ l : List Pc, (pairsM l).length = l.length / 2
  | [] => rfl
  | [_] => by simp [pairsM]
  | a :: b :: r => by simp only [pairsM, List.length_cons, pairsM_length r]; omega
theorem rowM_length (f : List Pc) (k : Nat) : (rowM f k).length ≤ 2 * f.length := by
  induction k with
  | zero => simp only [rowM]; omega
  | succ k ih => simp only [rowM, sortG_length, List.length_append, pairsM_length]; omega

/-- What holds of all parcels. -/
def PcOk (N : Nat) (B : Int) (m : Nat) (p : Pc) : Prop := 0 ≤ p.1 ∧ p.1 ≤ B ∧ (1 ≤ p.2.length ∧ p.2.length ≤ m) ∧ ∀ s ∈ p.2, 0 ≤ s ∧ s < N
theorem pairsM_ok (N : Nat) (B : Int) (m : Nat) (hB : 0 ≤ B) : ∀ l : List Pc, (∀ p ∈ l, PcOk N B m p) → ∀ p ∈ pairsM l, PcOk N (2 * B) (2 * m) p
  | [], _ => by simp [pairsM]
  | [_], _ => by simp [pairsM]
  | a :: b :: r, h => by
    intro p hp
    simp only [pairsM, List.mem_cons] at hp
    rcases hp with rfl | hp
    · obtain ⟨a1, a2, a3, a4⟩ := h a (by simp)
      obtain ⟨b1, b2, b3, b4⟩ := h b (by simp)
      refine ⟨by simp only; omega, by simp only; omega, by simp only [List.length_append]; omega, fun s hs => ?_⟩
      rcases List.mem_append.1 hs with hs | hs
      · exact a4 s hs
      · exact b4 s hs
    · exact pairsM_ok N B m hB r (fun p hp => h p (by simp [hp])) p hp
theorem firstM_ok (cs : List Int) (h : ∀ c ∈ cs, c ≤ 2147483648) : ∀ p ∈ firstM cs, PcOk cs.length 2147483648 1 p := by
  intro p hp
  obtain ⟨s, hs, he⟩ := List.mem_filterMap.1 hp
  have hs' := List.mem_range.1 hs
  rw [List.getElem?_eq_getElem hs'] at he
  simp only at he
  split at he
  · cases he
    exact ⟨by simp only; omega, h _ (List.getElem_mem _), by simp, fun s hs => by simp only [List.mem_singleton] at hs; omega⟩
  · cases he
theorem PcOk.mono {N : Nat} {B B' : Int} {m m' : Nat} {p : Pc} (h : PcOk N B m p) (hB : B ≤ B') (hm : m ≤ m') : PcOk N B' m' p := ⟨h.1, by have := h.2.1; omega, ⟨h.2.2.1.1, Nat.le_trans h.2.2.1.2 hm⟩, h.2.2.2⟩
theorem rowM_ok (N : Nat) (f : List Pc) (h : ∀ p ∈ f, PcOk N 2147483648 1 p) (k : Nat) : ∀ p ∈ rowM f k, PcOk N (2147483648 * 2 ^ k) (2 ^ k) p := by
  induction k with
  | zero => simpa [rowM] using h
  | succ k ih =>
    intro p hp
    have h1 : (1 : Int) ≤ 2 ^ k := by exact_mod_cast Nat.one_le_two_pow
    have h2 : 1 ≤ 2 ^ k := Nat.one_le_two_pow
    simp only [rowM, mem_sortG, List.mem_append] at hp
    rcases hp with hp | hp
    · exact (h p hp).mono (by rw [Int.pow_succ]; omega) (by rw [Nat.pow_succ]; omega)
    · have := pairsM_ok N _ _ (by omega) _ ih p hp
      exact this.mono (by rw [Int.pow_succ]; omega) (by rw [Nat.pow_succ]; omega)

theorem filterMap_congr' {α β : Type} {f g : α → Option β} : ∀ l : List α, (∀ x ∈ l, f x = g x) → l.filterMap f = l.filterMap g
  | [], _ => rfl
  | x :: r, h => by
    simp only [List.filterMap_cons, h x (by simp), filterMap_congr' r (fun y hy => h y (by simp [hy]))]
theorem firstM_succ (cs : List Int) (k : Nat) (h : k < cs.length) : firstM (cs.take (k + 1)) = firstM (cs.take k) ++ (if 0 < cs[k] then [(cs[k], [(k : Int)])] else []) := by
  have e1 : (cs.take (k + 1)).length = k + 1 := by simp; omega
  have e2 : (cs.take k).length = k := by simp; omega
  unfold firstM
  rw [e1, e2, List.range_succ, List.filterMap_append]
  congr 1
  · refine filterMap_congr' _ fun s hs => ?_
    have hs' := List.mem_range.1 hs
    rw [List.getElem?_take, List.getElem?_take, if_pos (by omega), if_pos hs']
  · simp only [List.filterMap_cons, List.filterMap_nil]
    rw [List.getElem?_take, if_pos (by omega), List.getElem?_eq_getElem h]
    by_cases h0 : 0 < cs[k] <;> simp [h0]
theorem firstM_length (cs : List Int) : (firstM cs).length ≤ cs.length := by
  unfold firstM
  exact Nat.le_trans (List.length_filterMap_le _ _) (by simp)
theorem firstM_take_length (cs : List Int) (k : Nat) : (firstM (cs.take k)).length ≤ k := Nat.le_trans (firstM_length _) (by simp; omega)

theorem firstM_one (cs : List Int) : ∀ p ∈ firstM cs, ∃ s : Nat, s < cs.length ∧ p.2 = [(s : Int)] := by
  intro p hp
  obtain ⟨s, hs, he⟩ := List.mem_filterMap.1 hp
  have hs' := List.mem_range.1 hs
  rw [List.getElem?_eq_getElem hs'] at he
  simp only at he
  split at he
  · cases he; exact ⟨s, hs', rfl⟩
  · cases he
theorem countM_length (N : Nat) (l : List Int) : (countM N l).length = N := by simp [countM]
theorem countM_nil (N : Nat) : countM N [] = List.replicate N 0 := by
  refine List.ext_getElem (by simp [countM]) (fun i h1 h2 => by simp [countM])
theorem countM_get (N : Nat) (l : List Int) (s : Nat) (hs : s < N) : (countM N l)[s]? = some (l.count (s : Int) : Int) := by
  simp [countM, hs]
theorem countM_snoc (N : Nat) (l : List Int) (s : Nat) (hs : s < N) : countM N (l ++ [(s : Int)]) = (countM N l).set s ((l.count (s : Int) : Int) + 1) := by
  refine List.ext_getElem (by simp [countM]) (fun i h1 h2 => ?_)
  have hi : i < N := by simpa [countM] using h1
  rw [List.getElem_set]
  simp only [countM, List.getElem_map, List.getElem_range, List.count_append, List.count_singleton]
  by_cases h : s = i
  · subst h; simp
  · have : ¬ ((s : Int) == (i : Int)) = true := by simp; omega
    simp only [h, this, if_false]
    simp

theorem pairsM_append : ∀ (a b : List Pc), a.length % 2 = 0 → pairsM (a ++ b) = pairsM a ++ pairsM b
  | [], b, _ => by simp [pairsM]
  | [_], b, h => by simp at h
  | x :: y :: r, b, h => by
    simp only [List.cons_append, pairsM]
    rw [pairsM_append r b (by simp only [List.length_cons] at h; omega)]
theorem pairsM_take_full (l : List Pc) (j : Nat) (h : 2 * j + 1 < l.length) : pairsM (l.take (2 * (j + 1))) = pairsM (l.take (2 * j)) ++ [(l[2 * j].1 + l[2 * j + 1].1, l[2 * j].2 ++ l[2 * j + 1].2)] := by
  rw [show 2 * (j + 1) = 2 * j + 1 + 1 by omega, List.take_succ_eq_append_getElem h, List.take_succ_eq_append_getElem (by omega : 2 * j < l.length), List.append_assoc,
    pairsM_append _ _ (by simp; omega)]
  rfl
theorem pairsM_take_odd (l : List Pc) (j : Nat) (h : l.length = 2 * j + 1) : pairsM (l.take (2 * (j + 1))) = pairsM (l.take (2 * j)) := by
  have hd : (l.drop (2 * j)).length = 1 := by simp; omega
  obtain ⟨x, hx⟩ := List.length_eq_one_iff.1 hd
  have e : l = l.take (2 * j) ++ [x] := by rw [← hx, List.take_append_drop]
  have h2 : pairsM l = pairsM (l.take (2 * j)) := by
    conv => lhs; rw [e]
    rw [pairsM_append _ _ (by simp; omega)]
    simp [pairsM]
  rw [List.take_of_length_le (by omega), h2]

def flatM (l : List Pc) : List Int := l.flatMap (·.2)
theorem flatM_succ (l : List Pc) (i : Nat) (h : i < l.length) : flatM (l.take (i + 1)) = flatM (l.take i) ++ l[i].2 := by
  unfold flatM; rw [List.take_succ_eq_append_getElem h, List.flatMap_append]; simp
theorem flatM_len (l : List Pc) (m : Nat) (h : ∀ p ∈ l, p.2.length ≤ m) : (flatM l).length ≤ l.length * m := by
  induction l with
  | nil => simp [flatM]
  | cons p r ih =>
    have h1 := ih (fun q hq => h q (by simp [hq]))
    have h2 := h p (by simp)
    simp only [flatM, List.flatMap_cons, List.length_append, List.length_cons, Nat.add_mul] at *
    omega

/-- What is refused. -/
def checkM (cs : List Int) (most : Nat) : Nat :=
  if 288 < cs.length ∨ most < 1 ∨ 15 < most then 1 else if ∃ c ∈ cs, c < 0 ∨ 2147483648 < c then 1 else if 2 ^ most < (firstM cs).length then 5 else 0

end Go.Hal

namespace Go.Hal
open Go.RowKit
set_option linter.unusedVariables false

/-- A slice that is read. -/
structure Ent where
  e : TypeId
  size : Nat
  n : Nat
  v : Value
  xs : List Value

theorem SlAt.carry {F F' : Nat → Prop} {w w' : World} {e size n : Nat} {v : Value} {xs : List Value} (h : SlAt F w e size n v xs) (hc : Carry F F' w w') : SlAt F' w' e size n v xs := (sl e size n v xs).carry F F' w w' h hc
theorem SlAt.mono {F F' : Nat → Prop} {w : World} {e size n : Nat} {v : Value} {xs : List Value} (h : SlAt F w e size n v xs) (hF : ∀ k, F k → F' k) : SlAt F' w e size n v xs := h.carry (Carry.same hF)

def pool (L : List Ent) : Res where
  P F w := ∀ x ∈ L, SlAt F w x.e x.size x.n x.v x.xs
  carry F F' w w' := fun h hc x hx => (h x hx).carry hc

theorem Sat.pool_nil {w : World} {Rs : List Res} (hS : Sat w Rs) : Sat w (pool [] :: Rs) := by
  obtain ⟨own, ho⟩ := hS
  refine ⟨fun k => own k + 1, fun i T hi => ?_⟩
  match i, hi with
  | 0, hi =>
    simp only [List.getElem?_cons_zero, Option.some.injEq] at hi
    subst hi
    intro x hx; cases hx
  | i + 1, hi => exact T.carry _ _ _ _ (ho i T hi) (Carry.same (fun k hk => by have hk' : own k = i := hk; show own k + 1 = i + 1; omega))

theorem Sat.pool_add {w : World} {Rs : List Res} {L : List Ent} {e size n : Nat} {v : Value} {xs : List Value} (hS : Sat w (sl e size n v xs :: pool L :: Rs)) : Sat w (pool (⟨e, size, n, v, xs⟩ :: L) :: Rs) := by
  refine hS.star_in.conv (fun F hF => ?_)
  obtain ⟨G, ha, hb⟩ := hF
  intro x hx
  rcases List.mem_cons.1 hx with rfl | hx
  · exact SlAt.mono ha (fun k hk => hk.1)
  · exact SlAt.mono (hb x hx) (fun k hk => hk.1)

theorem Sat.pool_read {w : World} {Rs : List Res} {L : List Ent} (hS : Sat w (pool L :: Rs)) {x : Ent} (hx : x ∈ L) : SlR w x.e x.size x.n x.v x.xs := (hS.first.choose_spec x hx).read

theorem Sat.pur_in {w : World} {Rs : List Res} {p : Prop} (hp : p) (hS : Sat w Rs) : Sat w (pur p :: Rs) := by
  obtain ⟨own, ho⟩ := hS
  refine ⟨fun k => own k + 1, fun i T hi => ?_⟩
  match i, hi with
  | 0, hi =>
    simp only [List.getElem?_cons_zero, Option.some.injEq] at hi
    subst hi
    exact hp
  | i + 1, hi => exact T.carry _ _ _ _ (ho i T hi) (Carry.same (fun k hk => by have hk' : own k = i := hk; show own k + 1 = i + 1; omega))
theorem Sat.pur_out {w : World} {Rs : List Res} {p : Prop} (hS : Sat w (pur p :: Rs)) : p ∧ Sat w Rs := ⟨hS.first.choose_spec, hS.tail⟩

/-- A part of a slice is read, too: a piece from element i on. -/
theorem SlAt.slice {F : Nat → Prop} {w : World} {e size n : Nat} {xs : List Value} {b off cap : Nat} (h : SlAt F w e size n (.slice (some ⟨b, off, none⟩) n cap) xs) (i m c : Nat) (hm : i + m ≤ n) (hc : m ≤ c) (hc2 : i + c ≤ cap) (hp : 0 < c) :
    SlAt F w e size m (.slice (some ⟨b, off + i * size, none⟩) m c) ((xs.drop (i * size)).take (m * size)) := by
  obtain ⟨ao, cap', heq, h1, h2, h3, h4⟩ := h
  simp only [Value.slice.injEq, true_and] at heq
  obtain ⟨rfl, rfl⟩ := heq
  obtain ⟨b', off', cur, heq, r2, r3, r4, r5⟩ := h4 (by omega)
  simp only [Option.some.injEq, Addr.mk.injEq, and_true] at heq
  obtain ⟨rfl, rfl⟩ := heq
  have hmul : (i + m) * size ≤ n * size := Nat.mul_le_mul_right _ hm
  have hmul2 : (i + c) * size ≤ cap * size := Nat.mul_le_mul_right _ hc2
  rw [Nat.add_mul] at hmul hmul2
  refine ⟨_, c, rfl, hc, by omega, by simp; omega, fun _ => ⟨b, _, cur, rfl, r2, r3, by omega, fun j u hu => ?_⟩⟩
  rw [List.getElem?_take] at hu
  split at hu
  · rw [List.getElem?_drop] at hu
    have := r5 _ u hu
    rw [← Nat.add_assoc] at this
    exact this
  · cases hu

end Go.Hal
