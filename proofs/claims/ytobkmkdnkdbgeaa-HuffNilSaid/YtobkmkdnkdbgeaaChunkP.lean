/- slices.Chunk at huff's parcels. -/
import Derived.Test.YtobkmkdnkdbgeaaRange
import Derived.Test.YtobkmkdnkdbgeaaSl
import Derived.Deep.QuietTactic
import Derived.BigQuiet
import Derived.Outline
import Derived.Test.YtobkmkdnkdbgeaaProg
namespace Go.Proofs.Ytobkmkdnkdbgeaa
open Go.RowKit Go.Hal
set_option linter.unusedVariables false
set_option linter.unusedSimpArgs false

/-- The pieces of n elements of a slice of N elements. -/
def piecesV (b off size n N : Nat) : List Value := (List.range ((N + n - 1) / n)).map fun k => .slice (some ⟨b, off + k * n * size, none⟩) (min n (N - k * n)) (min n (N - k * n))

theorem piece_at {b off size n N : Nat} (hn : 0 < n) {pre : List Value} {x : Value} (h : (pre ++ [x]) <+: piecesV b off size n N) :
    pre.length * n < N ∧ x = .slice (some ⟨b, off + pre.length * n * size, none⟩) (min n (N - pre.length * n)) (min n (N - pre.length * n)) := by
  obtain ⟨r, hr⟩ := h
  have hx : (piecesV b off size n N)[pre.length]? = some x := by rw [← hr]; simp
  have hlt := (List.getElem?_eq_some_iff.1 hx).1
  unfold piecesV at hx hlt
  simp only [List.length_map, List.length_range] at hlt
  rw [List.getElem?_map, List.getElem?_range hlt] at hx
  simp only [Option.map_some, Option.some.injEq] at hx
  refine ⟨?_, hx.symm⟩
  rw [Nat.lt_div_iff_mul_lt hn] at hlt
  omega
theorem piecesV_length (b off size n N : Nat) : (piecesV b off size n N).length = (N + n - 1) / n := by simp [piecesV]

attribute [local go_sem] Oper.semAt_some

set_option maxRecDepth 100000 in
set_option maxHeartbeats 1000000 in
theorem chunk1_seq (ao : Option Addr) (b off n N cap bs bn : Nat) (hao : 0 < N → ao = some ⟨b, off, none⟩) (hn : 0 < n) (hN : N ≤ cap) (hcap : cap ≤ 9223372036854775807) (hNb : N ≤ 281474976710656) (hn2 : n ≤ 1048576) :
    SeqSat Try.prog 78 #[.pointer (some ⟨bs, 0, none⟩), .pointer (some ⟨bn, 0, none⟩)] (fun v : Value => #[v]) (piecesV b off 2 n N)
      (star (blk bs (.cells #[.slice ao N cap] 90 (0, 0))) (blk bn (.cells #[.int .i64 n] 3 (0, 0)))) := by
  intro l J Jx w hY h0
  refine callsIn_of_wp Try.func78 rfl trivial ?_ rfl
  simp only [Try.ntmps78, List.size_toArray, List.length_cons, List.length_nil, Nat.reduceAdd, Nat.reduceSub, Array.replicate_succ, Array.replicate_zero, List.push_toArray, List.append_toArray, List.nil_append, List.cons_append]
  have hK : ∀ k, k < (N + n - 1) / n ↔ k * n < N := by
    intro k
    rw [Nat.lt_div_iff_mul_lt hn]
    omega
  have HK := Lib.hid hK
  have HY := Lib.hid hY
  have hlen : (piecesV b off 2 n N).length = (N + n - 1) / n := by simp [piecesV]
  have Hlen := Lib.hid hlen
  clear hK hY hlen
  gi_wp2
  gi_loopw [4] (fun i wr => ∃ k : Nat, k ≤ (N + n - 1) / n ∧ i = .int .i64 ((k * n : Nat) : Int) ∧ Sat wr (star (blk bs (.cells #[.slice ao N cap] 90 (0, 0))) (blk bn (.cells #[.int .i64 n] 3 (0, 0))) :: J ((piecesV b off 2 n N).take k))) (fun i _ => N + n - (intOf i).toNat)
  case atStart => exact ⟨0, Nat.zero_le _, by simp, by simpa using h0⟩
  case round =>
    obtain ⟨k, hk, rfl, hS⟩ := hrel
    have hS2 := hS.star_out
    have hb1 := (hS2.at_ 0 _ rfl).choose_spec.2
    have hb2 := (hS2.at_ 1 _ rfl).choose_spec.2
    have q1 : wr.cell? ⟨bs, 0, none⟩ = some (.slice ao N cap) := by rw [cell_of_row wr bs 0 _ _ _ hb1]; rfl
    have q2 : wr.cell? ⟨bn, 0, none⟩ = some (.int .i64 n) := by rw [cell_of_row wr bn 0 _ _ _ hb2]; rfl
    clear hb1 hb2 hS2
    obtain ⟨i, Hi⟩ : ∃ i, Hid (i = k * n) := ⟨_, rfl⟩
    rw [← Hi.out]
    by_cases hlt : i < N
    · obtain rfl := hao (by omega)
      clear hao
      have hkK : k < (N + n - 1) / n := (HK.out k).2 (by rw [← Hi.out]; exact hlt)
      have hd : decide (i < N) = true := decide_eq_true hlt
      obtain ⟨m, Hm⟩ : ∃ m, Hid (m = min n (N - i)) := ⟨_, rfl⟩
      have hm1 : m ≤ N - i := by rw [Hm.out]; omega
      have hm0 : 0 < m := by rw [Hm.out]; omega
      have hmn : min (n : Int) ((N : Int) - i) = m := by rw [Hm.out]; omega
      have hpre : (piecesV b off 2 n N).take k ++ [.slice (some ⟨b, off + i * 2, none⟩) m m] = (piecesV b off 2 n N).take (k + 1) := by
        rw [List.take_succ_eq_append_getElem (by rw [Hlen.out]; exact hkK)]
        simp only [piecesV, List.getElem_map, List.getElem_range, Hm.out, Hi.out]
      have Hpre := Lib.hid hpre
      clear hpre
      gi_wp2
      refine wpIn_wide.2 ?_
      go_quiet (fail)
      gi_wp2
      all_goals
        first
          | rw [show ((i : Int) + n).toNat - i = m by rw [Hm.out]; omega]
          | rw [show ((i : Int) + ((N - i : Nat) : Int)).toNat - i = m by rw [Hm.out]; omega]
        obtain ⟨fn, tmps, assign, body, hy, hR⟩ := HY.out ((piecesV b off 2 n N).take k) (.slice (some ⟨b, off + i * 2, none⟩) m m) (by rw [Hpre.out]; exact List.take_prefix _ _) (wr.drewN nq) (hS.drewN nq)
        rw [hy]
        simp only [Oper.uponIn_round]
        refine ⟨fun h => by simp [Fence.wide] at h, ?_⟩
        refine hR.mono ?_
        rintro e W3 (⟨rfl, hJ3⟩ | ⟨rfl, hJx3⟩)
        · rw [Hpre.out] at hJ3
          have hS3 := hJ3.star_out
          have hb1 := (hS3.at_ 0 _ rfl).choose_spec.2
          have hb2 := (hS3.at_ 1 _ rfl).choose_spec.2
          have q1 : W3.cell? ⟨bs, 0, none⟩ = some (.slice (some ⟨b, off, none⟩) N cap) := by rw [cell_of_row W3 bs 0 _ _ _ hb1]; rfl
          have q2 : W3.cell? ⟨bn, 0, none⟩ = some (.int .i64 n) := by rw [cell_of_row W3 bn 0 _ _ _ hb2]; rfl
          clear hb1 hb2 hS3
          gi_wp2
          go_roundw
          case rel => exact ⟨k + 1, by omega, by rw [Nat.add_mul, Nat.one_mul, ← Hi.out]; go_num, hJ3⟩
          case measure => simp [intOf]; omega
        · gi_wp2
          refine bodyPost_ret (results_none rfl _ _ _) rfl ?_
          exact ⟨⟨_, rfl⟩, .inr ⟨_, List.take_prefix _ _, by rw [← Hpre.out]; exact hJx3⟩⟩
    · have hd : decide (i < N) = false := decide_eq_false hlt
      have hkK : k = (N + n - 1) / n := by
        have := mt (HK.out k).1 (by rw [← Hi.out]; exact hlt)
        omega
      have Hk := Lib.hid hkK
      clear hkK
      gi_wp2
      go_end0
      refine ⟨⟨_, rfl⟩, .inl ?_⟩
      rw [Hk.out, ← Hlen.out, List.take_length] at hS
      exact hS

end Go.Proofs.Ytobkmkdnkdbgeaa
