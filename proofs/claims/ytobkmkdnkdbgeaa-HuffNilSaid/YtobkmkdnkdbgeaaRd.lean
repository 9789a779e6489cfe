/- Package bits: the reader's contracts. -/
import Derived.Test.YtobkmkdnkdbgeaaProg
import Derived.Test.YtobkmkdnkdbgeaaSl
import Derived.Test.YtobkmkdnkdbgeaaNum
import Derived.Test.YtobkmkdnkdbgeaaArith
import Derived.Deep.QuietTactic
import Derived.BigQuiet
namespace Go.Proofs.Ytobkmkdnkdbgeaa
open Go.RowKit Go.Hal
set_option linter.unusedVariables false
set_option linter.unusedSimpArgs false

theorem ret_int {k : IntKind} {a b : Int} (h : a = b) : Ending.returned (.int k a) = .returned (.int k b) := by rw [h]
theorem ret2_int {k : IntKind} {a b : Int} {u v : Value} (h : a = b) (h2 : u = v) : Ending.returned (.tuple #[.int k a, u]) = .returned (.tuple #[.int k b, v]) := by rw [h, h2]
def byteV (b : UInt8) : Value := .int .u8 b.toNat
theorem byteV_one (bs : List UInt8) : ∀ u ∈ bs.map byteV, u.oneCell' = true := by
  intro u hu
  obtain ⟨b, -, rfl⟩ := List.mem_map.1 hu
  rfl

/-- A reader that has these bits. -/
def rd (r : Nat) (l : List Bool) : Res := ex fun x : Value × List UInt8 × Nat =>
  star (star (blk r (.cells #[x.1, .int .i64 (x.2.2 : Nat)] 108 (0, 0))) (sl 5 1 x.2.1.length x.1 (x.2.1.map byteV)))
    (pur (x.2.2 < 8 ∧ x.2.2 ≤ 8 * x.2.1.length ∧ l = (bitsOf x.2.1).drop x.2.2 ∧ x.2.1.length ≤ 35184372088832))

theorem rd_open {w : World} {r : Nat} {l : List Bool} {Rs : List Res} (hS : Sat w (rd r l :: Rs)) :
    ∃ (v : Value) (bs : List UInt8) (off : Nat), Sat w (blk r (.cells #[v, .int .i64 off] 108 (0, 0)) :: sl 5 1 bs.length v (bs.map byteV) :: Rs) ∧
      off < 8 ∧ off ≤ 8 * bs.length ∧ l = (bitsOf bs).drop off ∧ bs.length ≤ 35184372088832 := by
  obtain ⟨⟨v, bs, off⟩, h⟩ := hS.ex_out
  have h2 := h.star_out
  have hp := (h2.at_ 1 _ rfl).choose_spec
  have h3 := (h2.pick (0 :: List.range' 2 Rs.length) (_ :: Rs) (by
    rw [List.map_cons, List.map_cons]
    congr 1
    refine List.ext_getElem? (fun k => ?_)
    by_cases hk : k < Rs.length
    · simp [hk, show 2 + k = k + 1 + 1 by omega]
    · simp [List.getElem?_eq_none (show Rs.length ≤ k by omega)]
      omega) (by simp [List.nodup_range'])).star_out
  exact ⟨v, bs, off, h3, hp⟩

theorem rd_shut {w : World} {r : Nat} {l : List Bool} {Rs : List Res} {v : Value} {bs : List UInt8} {off : Nat} (hS : Sat w (blk r (.cells #[v, .int .i64 off] 108 (0, 0)) :: sl 5 1 bs.length v (bs.map byteV) :: Rs))
    (h1 : off < 8) (h2 : off ≤ 8 * bs.length) (h3 : l = (bitsOf bs).drop off) (h4 : bs.length ≤ 35184372088832) : Sat w (rd r l :: Rs) := by
  refine Sat.ex_in (v, bs, off) ?_
  refine hS.star_in.conv (fun F hF => ⟨fun _ => True, ?_, ⟨h1, h2, h3, h4⟩⟩)
  obtain ⟨G, ha, hb⟩ := hF
  exact ⟨G, by simpa using ha, by simpa using hb⟩

theorem rd_len {w : World} {r : Nat} {l : List Bool} {Rs : List Res} (hS : Sat w (rd r l :: Rs)) : l.length ≤ 281474976710656 := by
  obtain ⟨v, bs, off, -, -, -, rfl, h⟩ := rd_open hS
  simp; omega

/-- The two cells of a reader. -/
theorem rd_cells {w : World} {r : Nat} {Rs : List Res} {v : Value} {off : Nat} (hS : Sat w (blk r (.cells #[v, .int .i64 off] 108 (0, 0)) :: Rs)) :
    w.cell? ⟨r, 0, none⟩ = some v ∧ w.cell? ⟨r, 1, none⟩ = some (.int .i64 off) ∧ w.frozen? ⟨r, 0, none⟩ = false ∧ w.frozen? ⟨r, 1, none⟩ = false := by
  have h := hS.heap
  exact ⟨by rw [cell_of_row w r 0 _ _ _ h]; rfl, by rw [cell_of_row w r 1 _ _ _ h]; rfl, frozen_of_row w r 0 _ _ h, frozen_of_row w r 1 _ _ h⟩

set_option maxHeartbeats 400000 in
theorem have_nil (w : World) : Calls Try.prog 28 #[.pointer none] w fun e w' => e = .returned (.int .i64 0) ∧ w = w' := by
  go_enter Try.func28, Try.ntmps28
  go_wp2
  go_ret
  exact ⟨rfl, rfl⟩

set_option maxHeartbeats 400000 in
theorem have_rd {w : World} {r : Nat} {l : List Bool} {Rs : List Res} (hS : Sat w (rd r l :: Rs)) :
    Calls Try.prog 28 #[.pointer (some ⟨r, 0, none⟩)] w fun e w' => e = .returned (.int .i64 l.length) ∧ ∃ n, w' = w.drewN n := by
  obtain ⟨v, bs, off, h, h1, h2, rfl, h3⟩ := rd_open hS
  obtain ⟨c0, c1, -, -⟩ := rd_cells h
  obtain ⟨F, ao, cap, rfl, -, -, -, -⟩ := h.at_ 1 _ rfl
  clear hS h
  go_enter Try.func28, Try.ntmps28
  go_wp2
  go_quiet (fail)
  go_wp2
  go_ret
  refine ⟨ret_int ?_, nq, rfl⟩
  simp; omega

def look (l : List Bool) (i : Nat) : Int := match l[i]? with | none => -1 | some b => b.toNat

theorem look_none {l : List Bool} {i : Nat} (h : l.length ≤ i) : look l i = -1 := by unfold look; rw [List.getElem?_eq_none h]
theorem look_some {l : List Bool} {i : Nat} (h : i < l.length) : look l i = (l[i].toNat : Int) := by unfold look; rw [List.getElem?_eq_getElem h]

set_option maxHeartbeats 400000 in
theorem look_rd {w : World} {r : Nat} {l : List Bool} {Rs : List Res} (hS : Sat w (rd r l :: Rs)) (i : Nat) (hi : i ≤ 281474976710656) :
    Calls Try.prog 58 #[.pointer (some ⟨r, 0, none⟩), .int .i64 i] w fun e w' => e = .returned (.int .i64 (look l i)) ∧ ∃ n, w' = w.drewN n := by
  have hll := rd_len hS
  by_cases hil : i < l.length
  · obtain ⟨v, bs, off, h, h1, h2, hl, h3⟩ := rd_open hS
    obtain ⟨c0, c1, -, -⟩ := rd_cells h
    have hlen : l.length = 8 * bs.length - off := by rw [hl]; simp
    obtain ⟨ao, cap, rfl, k1, k2, k3, k4⟩ := (h.pick [1] [_] rfl (by simp)).sl_read
    obtain ⟨b, o, rfl, -, hc⟩ := k4 (by omega)
    have hib : (i + off) / 8 < bs.length := by omega
    have hc2 := hc ((i + off) / 8) (byteV bs[(i + off) / 8]) (by simp [hib])
    unfold byteV at hc2
    clear hc k4 k3
    have hv : look l i = ((bs[(i + off) / 8].toNat.testBit ((i + off) % 8)).toNat : Int) := by
      rw [look_some hil]
      congr 2
      have hg := bitsOf_get bs (i + off) (by omega)
      rw [List.getElem?_eq_getElem hib] at hg
      have hd : l[i]? = (bitsOf bs)[i + off]? := by rw [hl, List.getElem?_drop, Nat.add_comm]
      rw [hg, List.getElem?_eq_getElem hil] at hd
      simpa using hd
    have Hv := Lib.hid hv
    clear hv hl
    have hle : i + off < 8 * bs.length := by omega
    clear hlen
    go_enter Try.func58, Try.ntmps58
    go_wp2_with (go_at_call 28; refine (have_rd hS).mono ?_; rintro e w' ⟨rfl, n, rfl⟩)
    go_ret
    refine ⟨ret_int ?_, n, rfl⟩
    rw [Hv.out]
    exact bit_u8 _ (UInt8.toNat_lt _) _ (i + off) (by simp) (by omega)
  · have H := Lib.hid (look_none (Nat.le_of_not_lt hil))
    obtain ⟨n0, h0⟩ : ∃ n0, n0 = l.length := ⟨_, rfl⟩
    have hle : l.length ≤ i := by omega
    clear h0
    go_enter Try.func58, Try.ntmps58
    go_wp2_with (go_at_call 28; refine (have_rd hS).mono ?_; rintro e w' ⟨rfl, n, rfl⟩)
    go_ret
    exact ⟨ret_int H.out.symm, n, rfl⟩

set_option maxHeartbeats 400000 in
/-- So many bits are gone. -/
theorem skip_rd {w : World} {r : Nat} {l : List Bool} {Rs : List Res} (hS : Sat w (rd r l :: Rs)) (n : Nat) (hn : n ≤ l.length) :
    Calls Try.prog 80 #[.pointer (some ⟨r, 0, none⟩), .int .i64 n] w fun e w' => e = .returned (.tuple #[]) ∧ Sat w' (rd r (l.drop n) :: Rs) := by
  obtain ⟨v, bs, off, h, h1, h2, hl, h3⟩ := rd_open hS
  obtain ⟨c0, c1, f0, f1⟩ := rd_cells h
  have hlen : n + off ≤ 8 * bs.length := by rw [hl] at hn; simp at hn; omega
  have hd : l.drop n = (bitsOf (bs.drop ((n + off) / 8))).drop ((n + off) % 8) := by
    rw [hl, List.drop_drop, ← bitsOf_drop, List.drop_drop]
    congr 1; omega
  obtain ⟨F, ao, cap, rfl, k1, k2, k3, k4⟩ := h.at_ 1 _ rfl
  have key : ∀ (ao' : Option Addr), (0 < cap - (n + off) / 8 → ∃ b o, ao = some ⟨b, o, none⟩ ∧ ao' = some ⟨b, o + (n + off) / 8, none⟩) → ∀ w' : World, (w' = (w.setCell ⟨r, 0, none⟩ (.slice ao' (bs.length - (n + off) / 8) (cap - (n + off) / 8))).setCell ⟨r, 1, none⟩ (.int .i64 ((n + off) % 8 : Nat))) → Sat w' (rd r (l.drop n) :: Rs) := by
    rintro ao' ha w' rfl
    have g : Sat ((w.setCell ⟨r, 0, none⟩ (.slice ao' (bs.length - (n + off) / 8) (cap - (n + off) / 8))).setCell ⟨r, 1, none⟩ (.int .i64 ((n + off) % 8 : Nat))) (blk r (.cells #[.slice ao' (bs.length - (n + off) / 8) (cap - (n + off) / 8), .int .i64 ((n + off) % 8 : Nat)] 108 (0, 0)) :: sl 5 1 bs.length (.slice ao bs.length cap) (bs.map byteV) :: Rs) :=
      (h.setCell (i := 0) _).setCell (i := 1) _
    have g2 : Sat ((w.setCell ⟨r, 0, none⟩ (.slice ao' (bs.length - (n + off) / 8) (cap - (n + off) / 8))).setCell ⟨r, 1, none⟩ (.int .i64 ((n + off) % 8 : Nat))) (blk r (.cells #[.slice ao' (bs.length - (n + off) / 8) (cap - (n + off) / 8), .int .i64 ((n + off) % 8 : Nat)] 108 (0, 0)) :: sl 5 1 (bs.drop ((n + off) / 8)).length (.slice ao' (bs.length - (n + off) / 8) (cap - (n + off) / 8)) ((bs.drop ((n + off) / 8)).map byteV) :: Rs) := by
      refine (Sat.conv (R' := sl 5 1 (bs.drop ((n + off) / 8)).length (.slice ao' (bs.length - (n + off) / 8) (cap - (n + off) / 8)) ((bs.drop ((n + off) / 8)).map byteV)) (g.swap) (fun F hF => ?_)).swap
      obtain ⟨ao2, cap2, he, q1, q2, q3, q4⟩ := hF
      simp only [Value.slice.injEq, true_and] at he
      obtain ⟨rfl, rfl⟩ := he
      refine ⟨ao', cap - (n + off) / 8, by simp, by simp; omega, by unfold maxLen at *; omega, by simp, fun hc => ?_⟩
      obtain ⟨b, o, cur, rfl, r2, r3, r4, r5⟩ := q4 (by omega)
      obtain ⟨b', o', he, rfl⟩ := ha hc
      simp only [Option.some.injEq, Addr.mk.injEq, and_true] at he
      obtain ⟨rfl, rfl⟩ := he
      refine ⟨b, _, cur, rfl, r2, r3, by clear q4 k4 ha r5; omega, fun j u hu => ?_⟩
      rw [List.map_drop, List.getElem?_drop] at hu
      have := r5 _ u hu
      rwa [← Nat.add_assoc] at this
    exact rd_shut g2 (by omega) (by simp; omega) hd (by simp; omega)
  have hka : ∃ b o, 0 < cap → ao = some ⟨b, o, none⟩ := by
    rcases Nat.eq_zero_or_pos cap with h0 | h0
    · exact ⟨0, 0, fun h => by omega⟩
    · obtain ⟨b, o, cur, r1, -⟩ := k4 h0
      exact ⟨b, o, fun _ => r1⟩
  obtain ⟨b, o, hao⟩ := hka
  clear k4 k3 hd hl h hS
  have Hk := Lib.hid key
  clear key
  unfold maxLen at k2
  by_cases hc0 : 0 < cap
  · obtain rfl := hao hc0
    clear hao
    rcases Nat.lt_or_ge ((n + off) / 8) cap with hq | hq
    · go_enter Try.func80, Try.ntmps80
      go_wp2
      go_end0
      refine ⟨rfl, ?_⟩
      rw [and7 _ (by omega) (by omega), show ((n : Int) + off) % 8 = ((n + off) % 8 : Nat) by simp]
      exact Hk.out _ (fun h => ⟨b, o, rfl, rfl⟩) _ rfl
    · obtain rfl : cap = (n + off) / 8 := by omega
      go_enter Try.func80, Try.ntmps80
      go_wp2
      go_end0
      refine ⟨rfl, ?_⟩
      rw [and7 _ (by omega) (by omega), show ((n : Int) + off) % 8 = ((n + off) % 8 : Nat) by simp]
      exact Hk.out (some ⟨b, o, none⟩) (fun h => by omega) _ (by rw [show (n + off) / 8 - (n + off) / 8 = 0 by omega, show bs.length - (n + off) / 8 = 0 by omega])
  · obtain rfl : cap = 0 := by omega
    obtain ⟨h00, h01⟩ : bs.length = 0 ∧ n + off = 0 := by omega
    obtain rfl : n = 0 := by omega
    obtain rfl : off = 0 := by omega
    obtain rfl : bs = [] := List.eq_nil_of_length_eq_zero h00
    clear h00 h01 hao
    cases ao with
    | none =>
      go_enter Try.func80, Try.ntmps80
      go_wp2
      go_end0
      refine ⟨rfl, ?_⟩
      rw [and7 _ (by omega) (by omega)]
      exact Hk.out none (fun h => by simp at h) _ (by simp)
    | some a =>
      go_enter Try.func80, Try.ntmps80
      go_wp2
      go_end0
      refine ⟨rfl, ?_⟩
      rw [and7 _ (by omega) (by omega)]
      exact Hk.out (some a) (fun h => by simp at h) _ (by simp)

/-- The first bytes as a number. -/
def wide (bs : List UInt8) (k : Nat) : Nat := num (bitsOf (bs.take k))
theorem wide_lt (bs : List UInt8) (k : Nat) (h : k ≤ 5) : wide bs k < 1099511627776 := by
  have h1 := num_lt (bitsOf (bs.take k))
  have h2 : 2 ^ (bitsOf (bs.take k)).length ≤ 2 ^ 40 := Nat.pow_le_pow_right (by omega) (by simp; omega)
  unfold wide; omega
theorem wide_succ (bs : List UInt8) (k : Nat) (h : k < bs.length) : wide bs (k + 1) = wide bs k ||| bs[k].toNat * 2 ^ (8 * k) := by
  unfold wide
  rw [List.take_succ_eq_append_getElem h, bitsOf_append, ← num_or]
  simp only [bitsOf_length, List.length_take, Nat.min_eq_left (Nat.le_of_lt h)]
  simp [bitsOf, num_byteBits]
theorem wide_all (bs : List UInt8) (k : Nat) (h : bs.length ≤ k) (hk : k ≤ 5) : wide bs k = wide bs 5 := by
  unfold wide; rw [List.take_of_length_le h, List.take_of_length_le (by omega)]
theorem wide_val (bs : List UInt8) (off n : Nat) (h1 : off < 8) (h2 : n ≤ 32) (h3 : off + n ≤ 8 * bs.length) :
    wide bs 5 / 2 ^ off % 2 ^ n = num (((bitsOf bs).drop off).take n) := by
  unfold wide
  rw [← bitsOf_take, ← num_drop, ← num_take]
  congr 1
  refine List.ext_getElem? fun k => ?_
  simp only [List.getElem?_take, List.getElem?_drop]
  by_cases hk : k < n
  · rw [if_pos hk, if_pos hk, if_pos (by omega)]
  · rw [if_neg hk, if_neg hk]

set_option maxHeartbeats 400000 in
/-- Too few bits. -/
theorem take_rd_short {w : World} {r : Nat} {l : List Bool} {Rs : List Res} (hS : Sat w (rd r l :: Rs)) (n : Nat) (h32 : n ≤ 32) (hn : l.length < n) :
    Calls Try.prog 57 #[.pointer (some ⟨r, 0, none⟩), .int .i64 n] w fun e w' => e = .returned (.tuple #[.int .i64 0, .bool false]) ∧ ∃ k, w' = w.drewN k := by
  go_enter Try.func57, Try.ntmps57
  go_wp2_with (go_at_call 28; refine (have_rd hS).mono ?_; rintro e w' ⟨rfl, k, rfl⟩)
  go_ret2
  exact ⟨rfl, k, rfl⟩

set_option maxHeartbeats 1000000 in
theorem take_rd {w : World} {r : Nat} {l : List Bool} {Rs : List Res} (hS : Sat w (rd r l :: Rs)) (n : Nat) (h32 : n ≤ 32) (hn : n ≤ l.length) :
    Calls Try.prog 57 #[.pointer (some ⟨r, 0, none⟩), .int .i64 n] w fun e w' => e = .returned (.tuple #[.int .i64 (num (l.take n)), .bool true]) ∧ Sat w' (rd r (l.drop n) :: Rs) := by
  obtain ⟨v, bs, off, h, h1, h2, hl, h3⟩ := rd_open hS
  obtain ⟨c0, c1, f0, f1⟩ := rd_cells h
  have hlen : off + n ≤ 8 * bs.length := by rw [hl] at hn; simp at hn; omega
  have hv : wide bs 5 / 2 ^ off % 2 ^ n = num (l.take n) := by rw [wide_val bs off n h1 h32 hlen, hl]
  obtain ⟨ao, cap, rfl, k1, k2, k3, k4⟩ := (h.pick [1] [_] rfl (by simp)).sl_read
  have hnl := num_take_lt l n 32 h32
  have Hv := Lib.hid hv
  have Hk := Lib.hid k4
  clear hv hl k4 k3 h
  unfold maxLen at k2
  go_enter Try.func57, Try.ntmps57
  go_wp2_with (go_at_call 28; refine (have_rd hS).mono ?_; rintro e w' ⟨rfl, k, rfl⟩)
  go_loop [6, 7] (fun a i => ∃ k : Nat, k ≤ 5 ∧ k ≤ bs.length ∧ i = .int .i64 k ∧ a = .int .u64 (wide bs k)) (fun _ i => 5 - (intOf i).toNat)
  case atStart => exact ⟨0, by omega, by omega, rfl, rfl⟩
  case round =>
    obtain ⟨k, g1, g2, rfl, rfl⟩ := hrel
    have hw := wide_lt bs k g1
    by_cases hr : k < 5 ∧ k < bs.length
    · obtain ⟨hr1, hr2⟩ := hr
      obtain ⟨b, o, rfl, -, hc⟩ := Hk.out (by omega)
      have hc2 := hc k (byteV bs[k]) (by simp [hr2])
      unfold byteV at hc2
      have hb := UInt8.toNat_lt bs[k]
      have Hw := Lib.hid (wide_succ bs k hr2)
      clear hc Hk
      go_wp2
      refine ⟨⟨k + 1, by omega, by omega, by omega, ?_⟩, by simp [intOf]; omega⟩
      have hp : 2 ^ (8 * k) ≤ 2 ^ 32 := Nat.pow_le_pow_right (by omega) (by omega)
      have hp2 : bs[k].toNat * 2 ^ (8 * k) ≤ 255 * 2 ^ 32 := Nat.mul_le_mul (by omega) hp
      rw [or_shl_u64 _ _ _ (by omega) (by omega), Hw.out]
    · have he := wide_all bs k
      have hk5 : wide bs k = wide bs 5 := by
        by_cases h5 : k = 5
        · rw [h5]
        · exact he (by omega) g1
      have Hk5 := Lib.hid hk5
      clear he hk5 Hk
      rcases Nat.lt_or_ge k 5 with h5 | h5
      · have hr2 : bs.length ≤ k := by omega
        clear hr
        go_wp2_with (go_at_call 80; refine (skip_rd (hS.drewN _) n hn).mono ?_; rintro e w' ⟨rfl, hS'⟩)
        go_ret2
        refine ⟨ret2_int ?_ rfl, hS'⟩
        rw [div_pow_int, and_pow_u64 _ _ (Nat.lt_of_le_of_lt (Nat.div_le_self _ _) (by omega)) (by omega), Hk5.out, Hv.out, wrap64_id _ (by omega) (by omega)]
      · clear hr
        go_wp2_with (go_at_call 80; refine (skip_rd (hS.drewN _) n hn).mono ?_; rintro e w' ⟨rfl, hS'⟩)
        go_ret2
        refine ⟨ret2_int ?_ rfl, hS'⟩
        rw [div_pow_int, and_pow_u64 _ _ (Nat.lt_of_le_of_lt (Nat.div_le_self _ _) (by omega)) (by omega), Hk5.out, Hv.out, wrap64_id _ (by omega) (by omega)]

set_option maxHeartbeats 400000 in
/-- To a byte's beginning. -/
theorem align_rd {w : World} {r : Nat} {l : List Bool} {Rs : List Res} (hS : Sat w (rd r l :: Rs)) :
    Calls Try.prog 61 #[.pointer (some ⟨r, 0, none⟩)] w fun e w' => e = .returned (.int .i64 (l.length % 8 : Nat)) ∧ Sat w' (rd r (l.drop (l.length % 8)) :: Rs) := by
  obtain ⟨v, bs, off, h, h1, h2, hl, h3⟩ := rd_open hS
  obtain ⟨c0, c1, f0, f1⟩ := rd_cells h
  have hlen : l.length = 8 * bs.length - off := by rw [hl]; simp
  rcases Nat.eq_zero_or_pos off with h0 | h0
  · subst h0
    have hm : l.length % 8 = 0 := by omega
    have Hm := Lib.hid hm
    clear hm hlen hl
    go_enter Try.func61, Try.ntmps61
    go_wp2
    go_ret
    exact ⟨ret_int (by rw [Hm.out]; rfl), by rw [Hm.out]; exact hS⟩
  · have hm : l.length % 8 = 8 - off := by omega
    have hn : 8 - off ≤ l.length := by omega
    have he : ((8 : Int) - off) = ((8 - off : Nat) : Int) := by omega
    have Hm := Lib.hid hm
    have He := Lib.hid he
    have hz : ((off : Int) == 0) = false := by simp; omega
    clear hm hlen hl he
    go_enter Try.func61, Try.ntmps61
    go_wp2_with (go_at_call 80; rw [He.out]; refine (skip_rd hS _ hn).mono ?_; rintro e w' ⟨rfl, hS'⟩)
    go_ret
    exact ⟨ret_int (by rw [Hm.out]), by rw [Hm.out]; exact hS'⟩

set_option maxHeartbeats 400000 in
theorem new_rd {w : World} {Rs : List Res} (hS : Sat w Rs) :
    Calls Try.prog 55 #[] w fun e w' => e = .returned (.pointer (some ⟨w.heap.size, 0, none⟩)) ∧ Sat w' (rd w.heap.size [] :: Rs) := by
  go_enter Try.func55, Try.ntmps55
  go_wp2
  go_ret
  refine ⟨rfl, ?_⟩
  exact rd_shut (v := .slice none 0 0) (bs := []) (off := 0) ((hS.alloc _).sl_nil 5 1 none).swap (by omega) (by simp) rfl (by simp)

theorem Try.infoU8 : (Try.prog.info? 5).map (fun i => (i.zero, i.size, i.bytes)) = some (some (.int .u8 0), 1, 1) := by kernel_rfl

set_option maxHeartbeats 400000 in
theorem feed_rd {w : World} {r : Nat} {l : List Bool} {Rs : List Res} (hS : Sat w (rd r l :: Rs)) {v : Value} {ys : List UInt8} (hv : SlR w 5 1 ys.length v (ys.map byteV)) (hb : l.length + 8 * ys.length ≤ 281474976710648) :
    Calls Try.prog 56 #[.pointer (some ⟨r, 0, none⟩), v] w fun e w' => e = .returned (.tuple #[]) ∧ Sat w' (rd r (l ++ bitsOf ys) :: Rs) := by
  obtain ⟨v0, bs, off, h, h1, h2, hl, h3⟩ := rd_open hS
  obtain ⟨c0, c1, f0, f1⟩ := rd_cells h
  have hlen : l.length = 8 * bs.length - off := by rw [hl]; simp
  have hn : bs.length + ys.length ≤ 35184372088832 := by omega
  have hsrc := hv.src (P := Try.prog) Try.underlying43 (byteV_one ys)
  have Hl := Lib.hid hl
  clear hl hlen
  obtain ⟨F, ao, cap, rfl, -, -, -, -⟩ := h.at_ 1 _ rfl
  obtain ⟨ao2, cap2, rfl, -, -, -, -⟩ := hv
  obtain ⟨i0, hi, hz0, hz1, hz2⟩ := info_parts Try.infoU8
  go_enter Try.func56, Try.ntmps56
  go_wp2_with (at_builtin; refine wpList_append_sat _ rfl _ _ 43 43 rfl 5 i0 (.int .u8 0) 1 1 Try.underlying43 hi hz0 hz1 hz2 rfl (by decide) bs.length _ _ _ rfl h.swap ys.length _ _ rfl hsrc ?_ ?_ ?_)
  · unfold maxLen; omega
  · omega
  · intro v' w' hS'
    obtain ⟨d0, d1, e0, e1⟩ := rd_cells hS'.swap
    obtain ⟨F', ao', cap', rfl, -, -, -, -⟩ := hS'.at_ 0 _ rfl
    go_wp2
    go_end0
    refine ⟨rfl, ?_⟩
    have g := hS'.swap.setCell (i := 0) (.slice ao' (bs.length + ys.length) cap')
    refine rd_shut (v := .slice ao' (bs.length + ys.length) cap') (bs := bs ++ ys) (off := off) ?_ h1 (by simp; omega) ?_ (by simp; omega)
    · simp only [List.length_append, List.map_append]
      exact g
    · rw [Hl.out, bitsOf_append, List.drop_append_of_le_length (by simpa using h2)]

set_option maxRecDepth 100000 in
set_option maxHeartbeats 400000 in
/-- Whole bytes, all of them. -/
theorem bytes_rd {w : World} {r : Nat} {bs : List UInt8} {Rs : List Res} (hS : Sat w (rd r (bitsOf bs) :: Rs)) (n : Nat) (hn : n = bs.length) :
    Calls Try.prog 68 #[.pointer (some ⟨r, 0, none⟩), .int .i64 n] w fun e w' => ∃ v, e = .returned v ∧ Sat w' (sl 5 1 bs.length v (bs.map byteV) :: rd r [] :: Rs) := by
  subst hn
  obtain ⟨v0, bs', off, h, h1, h2, hl, h3⟩ := rd_open hS
  obtain ⟨c0, c1, f0, f1⟩ := rd_cells h
  have hlen := congrArg List.length hl
  simp only [bitsOf_length, List.length_drop] at hlen
  obtain rfl : off = 0 := by omega
  obtain rfl : bs = bs' := bitsOf_inj _ _ (by simpa using hl)
  clear hl hlen
  rcases Nat.eq_zero_or_pos bs.length with h0 | h0
  · obtain rfl : bs = [] := List.eq_nil_of_length_eq_zero h0
    clear h0
    go_enter Try.func68, Try.ntmps68
    go_wp2
    go_ret
    exact ⟨_, rfl, hS.sl_nil _ _ _⟩
  · have hr := (h.pick [1] [_] rfl (by simp)).sl_read
    obtain ⟨ao, cap, rfl, k1, k2, k3, k4⟩ := hr
    obtain ⟨b, o, rfl, kb, hc⟩ := k4 (by omega)
    have hr2 : ∀ w' : World, w'.heap = (w.alloc (.cells #[] 5)).heap → SlR w' 5 1 bs.length (.slice (some ⟨b, o, none⟩) bs.length cap) (bs.map byteV) := by
      intro w' hw'
      refine ⟨_, cap, rfl, k1, k2, k3, fun _ => ⟨b, o, rfl, by rw [hw']; simp; omega, fun j u hu => ?_⟩⟩
      have e : w'.cell? ⟨b, o + j, none⟩ = (w.alloc (.cells #[] 5)).cell? ⟨b, o + j, none⟩ := by simp [World.cell?, hw']
      rw [e, World.cell?_alloc_lt _ _ _ kb]
      exact hc j u hu
    have Hsrc := Lib.hid (fun (w' : World) (hw' : w'.heap = (w.alloc (.cells #[] 5)).heap) => (hr2 w' hw').src (P := Try.prog) Try.underlying43 (byteV_one bs))
    clear hc k3 k4 hr2
    unfold maxLen at k2
    have hr0 : r < w.heap.size := (Array.getElem?_eq_some_iff.1 h.heap).1
    simp only [Int.natCast_zero] at c1
    have hmin : min (bs.length : Int) bs.length = bs.length := by omega
    obtain ⟨i0, hi, hz0, hz1, hz2⟩ := info_parts Try.infoU8
    go_enter Try.func68, Try.ntmps68
    go_wp2_with (at_builtin; refine wpList_append_sat _ rfl _ _ 43 43 rfl 5 i0 (.int .u8 0) 1 1 Try.underlying43 hi hz0 hz1 hz2 rfl (by decide) 0 _ _ _ rfl ((hS.alloc_drop _).sl_nil 5 1 (some _)) bs.length _ _ rfl (Hsrc.out _ rfl) ?_ ?_ ?_)
    · unfold maxLen; omega
    · omega
    · intro v' w' hS'
      go_wp2_with (go_at_call 80; rw [show (8 : Int) * bs.length = ((8 * bs.length : Nat) : Int) by simp]; refine (skip_rd hS'.swap _ (by simp)).mono ?_; rintro e w2 ⟨rfl, hS2⟩)
      go_ret
      refine ⟨v', rfl, ?_⟩
      rw [List.drop_of_length_le (by simp)] at hS2
      exact hS2.swap

end Go.Proofs.Ytobkmkdnkdbgeaa
