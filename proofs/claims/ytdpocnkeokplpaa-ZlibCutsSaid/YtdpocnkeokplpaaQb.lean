/- Package bits: the reader's contracts. Small functions: huff.turned, slices.Index, Contains, ContainsFunc at New's closure. Maps as resources: made, asked, written; keys of a kind that is compared by its value. huff's words as keys of maps. huff: the words of lengths; what New lays. -/
import Derived.Test.YtdpocnkeokplpaaProg
import Derived.Test.YtdpocnkeokplpaaQa
import Derived.Deep.QuietTactic
import Derived.BigQuiet
import Derived.MapKept
import Derived.Laws.StructEq
import Derived.Deep.RegionHeld3
namespace Go.Proofs.Ytdpocnkeokplpaa
open Go.RowKit Go.Hal
set_option linter.unusedVariables false
set_option linter.unusedSimpArgs false

theorem ret_int {k : IntKind} {a b : Int} (h : a = b) : Ending.returned (.int k a) = .returned (.int k b) := by rw [h]
theorem ret2_int {k : IntKind} {a b : Int} {u v : Value} (h : a = b) (h2 : u = v) : Ending.returned (.tuple #[.int k a, u]) = .returned (.tuple #[.int k b, v]) := by rw [h, h2]
def byteV (b : UInt8) : Value := .int .u8 b.toNat
theorem byteV_one (bs : List UInt8) : ∀ u ∈ bs.map byteV, u.oneCell' = true := by
  intro u hu
  obtain ⟨b, -, rfl⟩ := List.mem_map.1 hu
  rfl

/-- A reader that has these bits. -/
def rd (r : Nat) (l : List Bool) : Res := ex fun x : Value × List UInt8 × Nat =>
  star (star (blk r (.cells #[x.1, .int .i64 (x.2.2 : Nat)] 126 (0, 0))) (sl 5 1 x.2.1.length x.1 (x.2.1.map byteV)))
    (pur (x.2.2 < 8 ∧ x.2.2 ≤ 8 * x.2.1.length ∧ l = (bitsOf x.2.1).drop x.2.2 ∧ x.2.1.length ≤ 140737488355328))

theorem rd_open {w : World} {r : Nat} {l : List Bool} {Rs : List Res} (hS : Sat w (rd r l :: Rs)) :
    ∃ (v : Value) (bs : List UInt8) (off : Nat), Sat w (blk r (.cells #[v, .int .i64 off] 126 (0, 0)) :: sl 5 1 bs.length v (bs.map byteV) :: Rs) ∧
      off < 8 ∧ off ≤ 8 * bs.length ∧ l = (bitsOf bs).drop off ∧ bs.length ≤ 140737488355328 := by
  obtain ⟨⟨v, bs, off⟩, h⟩ := hS.ex_out
  have h2 := h.star_out
  have hp := (h2.at_ 1 _ rfl).choose_spec
  have h3 := (h2.pick (0 :: List.range' 2 Rs.length) (_ :: Rs) (by
    rw [List.map_cons, List.map_cons]
    congr 1
    refine List.ext_getElem? (fun k => ?_)
    by_cases hk : k < Rs.length
    · simp [hk, show 2 + k = k + 1 + 1 by omega]
    · simp [List.getElem?_eq_none (show Rs.length ≤ k by omega)]
      omega) (by simp [List.nodup_range'])).star_out
  exact ⟨v, bs, off, h3, hp⟩

theorem rd_shut {w : World} {r : Nat} {l : List Bool} {Rs : List Res} {v : Value} {bs : List UInt8} {off : Nat} (hS : Sat w (blk r (.cells #[v, .int .i64 off] 126 (0, 0)) :: sl 5 1 bs.length v (bs.map byteV) :: Rs))
    (h1 : off < 8) (h2 : off ≤ 8 * bs.length) (h3 : l = (bitsOf bs).drop off) (h4 : bs.length ≤ 140737488355328) : Sat w (rd r l :: Rs) := by
  refine Sat.ex_in (v, bs, off) ?_
  refine hS.star_in.conv (fun F hF => ⟨fun _ => True, ?_, ⟨h1, h2, h3, h4⟩⟩)
  obtain ⟨G, ha, hb⟩ := hF
  exact ⟨G, by simpa using ha, by simpa using hb⟩

theorem rd_len {w : World} {r : Nat} {l : List Bool} {Rs : List Res} (hS : Sat w (rd r l :: Rs)) : l.length ≤ 1125899906842624 := by
  obtain ⟨v, bs, off, -, -, -, rfl, h⟩ := rd_open hS
  simp; omega

/-- The two cells of a reader. -/
theorem rd_cells {w : World} {r : Nat} {Rs : List Res} {v : Value} {off : Nat} (hS : Sat w (blk r (.cells #[v, .int .i64 off] 126 (0, 0)) :: Rs)) :
    w.cell? ⟨r, 0, none⟩ = some v ∧ w.cell? ⟨r, 1, none⟩ = some (.int .i64 off) ∧ w.frozen? ⟨r, 0, none⟩ = false ∧ w.frozen? ⟨r, 1, none⟩ = false := by
  have h := hS.heap
  exact ⟨by rw [cell_of_row w r 0 _ _ _ h]; rfl, by rw [cell_of_row w r 1 _ _ _ h]; rfl, frozen_of_row w r 0 _ _ h, frozen_of_row w r 1 _ _ h⟩

set_option maxHeartbeats 400000 in
theorem have_nil (w : World) : Calls Try.prog 50 #[.pointer none] w fun e w' => e = .returned (.int .i64 0) ∧ w = w' := by
  go_enter Try.func50, Try.ntmps50
  go_wp2
  go_ret
  exact ⟨rfl, rfl⟩

set_option maxHeartbeats 400000 in
theorem have_rd {w : World} {r : Nat} {l : List Bool} {Rs : List Res} (hS : Sat w (rd r l :: Rs)) :
    Calls Try.prog 50 #[.pointer (some ⟨r, 0, none⟩)] w fun e w' => e = .returned (.int .i64 l.length) ∧ ∃ n, w' = w.drewN n := by
  obtain ⟨v, bs, off, h, h1, h2, rfl, h3⟩ := rd_open hS
  obtain ⟨c0, c1, -, -⟩ := rd_cells h
  obtain ⟨F, ao, cap, rfl, -, -, -, -⟩ := h.at_ 1 _ rfl
  clear hS h
  go_enter Try.func50, Try.ntmps50
  go_wp2
  go_quiet (fail)
  go_wp2
  go_ret
  refine ⟨ret_int ?_, nq, rfl⟩
  simp; omega

def look (l : List Bool) (i : Nat) : Int := match l[i]? with | none => -1 | some b => b.toNat

theorem look_none {l : List Bool} {i : Nat} (h : l.length ≤ i) : look l i = -1 := by unfold look; rw [List.getElem?_eq_none h]
theorem look_some {l : List Bool} {i : Nat} (h : i < l.length) : look l i = (l[i].toNat : Int) := by unfold look; rw [List.getElem?_eq_getElem h]

set_option maxHeartbeats 400000 in
theorem look_rd {w : World} {r : Nat} {l : List Bool} {Rs : List Res} (hS : Sat w (rd r l :: Rs)) (i : Nat) (hi : i ≤ 1125899906842624) :
    Calls Try.prog 105 #[.pointer (some ⟨r, 0, none⟩), .int .i64 i] w fun e w' => e = .returned (.int .i64 (look l i)) ∧ ∃ n, w' = w.drewN n := by
  have hll := rd_len hS
  by_cases hil : i < l.length
  · obtain ⟨v, bs, off, h, h1, h2, hl, h3⟩ := rd_open hS
    obtain ⟨c0, c1, -, -⟩ := rd_cells h
    have hlen : l.length = 8 * bs.length - off := by rw [hl]; simp
    obtain ⟨ao, cap, rfl, k1, k2, k3, k4⟩ := (h.pick [1] [_] rfl (by simp)).sl_read
    obtain ⟨b, o, rfl, -, hc⟩ := k4 (by omega)
    have hib : (i + off) / 8 < bs.length := by omega
    have hc2 := hc ((i + off) / 8) (byteV bs[(i + off) / 8]) (by simp [hib])
    unfold byteV at hc2
    clear hc k4 k3
    have hv : look l i = ((bs[(i + off) / 8].toNat.testBit ((i + off) % 8)).toNat : Int) := by
      rw [look_some hil]
      congr 2
      have hg := bitsOf_get bs (i + off) (by omega)
      rw [List.getElem?_eq_getElem hib] at hg
      have hd : l[i]? = (bitsOf bs)[i + off]? := by rw [hl, List.getElem?_drop, Nat.add_comm]
      rw [hg, List.getElem?_eq_getElem hil] at hd
      simpa using hd
    have Hv := Lib.hid hv
    clear hv hl
    have hle : i + off < 8 * bs.length := by omega
    clear hlen
    go_enter Try.func105, Try.ntmps105
    go_wp2_with (go_at_call 50; refine (have_rd hS).mono ?_; rintro e w' ⟨rfl, n, rfl⟩)
    go_ret
    refine ⟨ret_int ?_, n, rfl⟩
    rw [Hv.out]
    exact bit_u8 _ (UInt8.toNat_lt _) _ (i + off) (by simp) (by omega)
  · have H := Lib.hid (look_none (Nat.le_of_not_lt hil))
    obtain ⟨n0, h0⟩ : ∃ n0, n0 = l.length := ⟨_, rfl⟩
    have hle : l.length ≤ i := by omega
    clear h0
    go_enter Try.func105, Try.ntmps105
    go_wp2_with (go_at_call 50; refine (have_rd hS).mono ?_; rintro e w' ⟨rfl, n, rfl⟩)
    go_ret
    exact ⟨ret_int H.out.symm, n, rfl⟩

set_option maxHeartbeats 400000 in
/-- So many bits are gone. -/
theorem skip_rd {w : World} {r : Nat} {l : List Bool} {Rs : List Res} (hS : Sat w (rd r l :: Rs)) (n : Nat) (hn : n ≤ l.length) :
    Calls Try.prog 86 #[.pointer (some ⟨r, 0, none⟩), .int .i64 n] w fun e w' => e = .returned (.tuple #[]) ∧ Sat w' (rd r (l.drop n) :: Rs) := by
  obtain ⟨v, bs, off, h, h1, h2, hl, h3⟩ := rd_open hS
  obtain ⟨c0, c1, f0, f1⟩ := rd_cells h
  have hlen : n + off ≤ 8 * bs.length := by rw [hl] at hn; simp at hn; omega
  have hd : l.drop n = (bitsOf (bs.drop ((n + off) / 8))).drop ((n + off) % 8) := by
    rw [hl, List.drop_drop, ← bitsOf_drop, List.drop_drop]
    congr 1; omega
  obtain ⟨F, ao, cap, rfl, k1, k2, k3, k4⟩ := h.at_ 1 _ rfl
  have key : ∀ (ao' : Option Addr), (0 < cap - (n + off) / 8 → ∃ b o, ao = some ⟨b, o, none⟩ ∧ ao' = some ⟨b, o + (n + off) / 8, none⟩) → ∀ w' : World, (w' = (w.setCell ⟨r, 0, none⟩ (.slice ao' (bs.length - (n + off) / 8) (cap - (n + off) / 8))).setCell ⟨r, 1, none⟩ (.int .i64 ((n + off) % 8 : Nat))) → Sat w' (rd r (l.drop n) :: Rs) := by
    rintro ao' ha w' rfl
    have g : Sat ((w.setCell ⟨r, 0, none⟩ (.slice ao' (bs.length - (n + off) / 8) (cap - (n + off) / 8))).setCell ⟨r, 1, none⟩ (.int .i64 ((n + off) % 8 : Nat))) (blk r (.cells #[.slice ao' (bs.length - (n + off) / 8) (cap - (n + off) / 8), .int .i64 ((n + off) % 8 : Nat)] 126 (0, 0)) :: sl 5 1 bs.length (.slice ao bs.length cap) (bs.map byteV) :: Rs) :=
      (h.setCell (i := 0) _).setCell (i := 1) _
    have g2 : Sat ((w.setCell ⟨r, 0, none⟩ (.slice ao' (bs.length - (n + off) / 8) (cap - (n + off) / 8))).setCell ⟨r, 1, none⟩ (.int .i64 ((n + off) % 8 : Nat))) (blk r (.cells #[.slice ao' (bs.length - (n + off) / 8) (cap - (n + off) / 8), .int .i64 ((n + off) % 8 : Nat)] 126 (0, 0)) :: sl 5 1 (bs.drop ((n + off) / 8)).length (.slice ao' (bs.length - (n + off) / 8) (cap - (n + off) / 8)) ((bs.drop ((n + off) / 8)).map byteV) :: Rs) := by
      refine (Sat.conv (R' := sl 5 1 (bs.drop ((n + off) / 8)).length (.slice ao' (bs.length - (n + off) / 8) (cap - (n + off) / 8)) ((bs.drop ((n + off) / 8)).map byteV)) (g.swap) (fun F hF => ?_)).swap
      obtain ⟨ao2, cap2, he, q1, q2, q3, q4⟩ := hF
      simp only [Value.slice.injEq, true_and] at he
      obtain ⟨rfl, rfl⟩ := he
      refine ⟨ao', cap - (n + off) / 8, by simp, by simp; omega, by unfold maxLen at *; omega, by simp, fun hc => ?_⟩
      obtain ⟨b, o, cur, rfl, r2, r3, r4, r5⟩ := q4 (by omega)
      obtain ⟨b', o', he, rfl⟩ := ha hc
      simp only [Option.some.injEq, Addr.mk.injEq, and_true] at he
      obtain ⟨rfl, rfl⟩ := he
      refine ⟨b, _, cur, rfl, r2, r3, by clear q4 k4 ha r5; omega, fun j u hu => ?_⟩
      rw [List.map_drop, List.getElem?_drop] at hu
      have := r5 _ u hu
      rwa [← Nat.add_assoc] at this
    exact rd_shut g2 (by omega) (by simp; omega) hd (by simp; omega)
  have hka : ∃ b o, 0 < cap → ao = some ⟨b, o, none⟩ := by
    rcases Nat.eq_zero_or_pos cap with h0 | h0
    · exact ⟨0, 0, fun h => by omega⟩
    · obtain ⟨b, o, cur, r1, -⟩ := k4 h0
      exact ⟨b, o, fun _ => r1⟩
  obtain ⟨b, o, hao⟩ := hka
  clear k4 k3 hd hl h hS
  have Hk := Lib.hid key
  clear key
  unfold maxLen at k2
  by_cases hc0 : 0 < cap
  · obtain rfl := hao hc0
    clear hao
    rcases Nat.lt_or_ge ((n + off) / 8) cap with hq | hq
    · go_enter Try.func86, Try.ntmps86
      go_wp2
      go_end0
      refine ⟨rfl, ?_⟩
      rw [and7 _ (by omega) (by omega), show ((n : Int) + off) % 8 = ((n + off) % 8 : Nat) by simp]
      exact Hk.out _ (fun h => ⟨b, o, rfl, rfl⟩) _ rfl
    · obtain rfl : cap = (n + off) / 8 := by omega
      go_enter Try.func86, Try.ntmps86
      go_wp2
      go_end0
      refine ⟨rfl, ?_⟩
      rw [and7 _ (by omega) (by omega), show ((n : Int) + off) % 8 = ((n + off) % 8 : Nat) by simp]
      exact Hk.out (some ⟨b, o, none⟩) (fun h => by omega) _ (by rw [show (n + off) / 8 - (n + off) / 8 = 0 by omega, show bs.length - (n + off) / 8 = 0 by omega])
  · obtain rfl : cap = 0 := by omega
    obtain ⟨h00, h01⟩ : bs.length = 0 ∧ n + off = 0 := by omega
    obtain rfl : n = 0 := by omega
    obtain rfl : off = 0 := by omega
    obtain rfl : bs = [] := List.eq_nil_of_length_eq_zero h00
    clear h00 h01 hao
    cases ao with
    | none =>
      go_enter Try.func86, Try.ntmps86
      go_wp2
      go_end0
      refine ⟨rfl, ?_⟩
      rw [and7 _ (by omega) (by omega)]
      exact Hk.out none (fun h => by simp at h) _ (by simp)
    | some a =>
      go_enter Try.func86, Try.ntmps86
      go_wp2
      go_end0
      refine ⟨rfl, ?_⟩
      rw [and7 _ (by omega) (by omega)]
      exact Hk.out (some a) (fun h => by simp at h) _ (by simp)

/-- The first bytes as a number. -/
def wide (bs : List UInt8) (k : Nat) : Nat := num (bitsOf (bs.take k))
theorem wide_lt (bs : List UInt8) (k : Nat) (h : k ≤ 5) : wide bs k < 1099511627776 := by
  have h1 := num_lt (bitsOf (bs.take k))
  have h2 : 2 ^ (bitsOf (bs.take k)).length ≤ 2 ^ 40 := Nat.pow_le_pow_right (by omega) (by simp; omega)
  unfold wide; omega
theorem wide_succ (bs : List UInt8) (k : Nat) (h : k < bs.length) : wide bs (k + 1) = wide bs k ||| bs[k].toNat * 2 ^ (8 * k) := by
  unfold wide
  rw [List.take_succ_eq_append_getElem h, bitsOf_append, ← num_or]
  simp only [bitsOf_length, List.length_take, Nat.min_eq_left (Nat.le_of_lt h)]
  simp [bitsOf, num_byteBits]
theorem wide_all (bs : List UInt8) (k : Nat) (h : bs.length ≤ k) (hk : k ≤ 5) : wide bs k = wide bs 5 := by
  unfold wide; rw [List.take_of_length_le h, List.take_of_length_le (by omega)]
theorem wide_val (bs : List UInt8) (off n : Nat) (h1 : off < 8) (h2 : n ≤ 32) (h3 : off + n ≤ 8 * bs.length) :
    wide bs 5 / 2 ^ off % 2 ^ n = num (((bitsOf bs).drop off).take n) := by
  unfold wide
  rw [← bitsOf_take, ← num_drop, ← num_take]
  congr 1
  refine List.ext_getElem? fun k => ?_
  simp only [List.getElem?_take, List.getElem?_drop]
  by_cases hk : k < n
  · rw [if_pos hk, if_pos hk, if_pos (by omega)]
  · rw [if_neg hk, if_neg hk]

set_option maxHeartbeats 400000 in
/-- Too few bits. -/
theorem take_rd_short {w : World} {r : Nat} {l : List Bool} {Rs : List Res} (hS : Sat w (rd r l :: Rs)) (n : Nat) (h32 : n ≤ 32) (hn : l.length < n) :
    Calls Try.prog 48 #[.pointer (some ⟨r, 0, none⟩), .int .i64 n] w fun e w' => e = .returned (.tuple #[.int .i64 0, .bool false]) ∧ ∃ k, w' = w.drewN k := by
  go_enter Try.func48, Try.ntmps48
  go_wp2_with (go_at_call 50; refine (have_rd hS).mono ?_; rintro e w' ⟨rfl, k, rfl⟩)
  go_ret2
  exact ⟨rfl, k, rfl⟩

set_option maxHeartbeats 1000000 in
theorem take_rd {w : World} {r : Nat} {l : List Bool} {Rs : List Res} (hS : Sat w (rd r l :: Rs)) (n : Nat) (h32 : n ≤ 32) (hn : n ≤ l.length) :
    Calls Try.prog 48 #[.pointer (some ⟨r, 0, none⟩), .int .i64 n] w fun e w' => e = .returned (.tuple #[.int .i64 (num (l.take n)), .bool true]) ∧ Sat w' (rd r (l.drop n) :: Rs) := by
  obtain ⟨v, bs, off, h, h1, h2, hl, h3⟩ := rd_open hS
  obtain ⟨c0, c1, f0, f1⟩ := rd_cells h
  have hlen : off + n ≤ 8 * bs.length := by rw [hl] at hn; simp at hn; omega
  have hv : wide bs 5 / 2 ^ off % 2 ^ n = num (l.take n) := by rw [wide_val bs off n h1 h32 hlen, hl]
  obtain ⟨ao, cap, rfl, k1, k2, k3, k4⟩ := (h.pick [1] [_] rfl (by simp)).sl_read
  have hnl := num_take_lt l n 32 h32
  have Hv := Lib.hid hv
  have Hk := Lib.hid k4
  clear hv hl k4 k3 h
  unfold maxLen at k2
  go_enter Try.func48, Try.ntmps48
  go_wp2_with (go_at_call 50; refine (have_rd hS).mono ?_; rintro e w' ⟨rfl, k, rfl⟩)
  go_loop [6, 7] (fun a i => ∃ k : Nat, k ≤ 5 ∧ k ≤ bs.length ∧ i = .int .i64 k ∧ a = .int .u64 (wide bs k)) (fun _ i => 5 - (intOf i).toNat)
  case atStart => exact ⟨0, by omega, by omega, rfl, rfl⟩
  case round =>
    obtain ⟨k, g1, g2, rfl, rfl⟩ := hrel
    have hw := wide_lt bs k g1
    by_cases hr : k < 5 ∧ k < bs.length
    · obtain ⟨hr1, hr2⟩ := hr
      obtain ⟨b, o, rfl, -, hc⟩ := Hk.out (by omega)
      have hc2 := hc k (byteV bs[k]) (by simp [hr2])
      unfold byteV at hc2
      have hb := UInt8.toNat_lt bs[k]
      have Hw := Lib.hid (wide_succ bs k hr2)
      clear hc Hk
      go_wp2
      refine ⟨⟨k + 1, by omega, by omega, by omega, ?_⟩, by simp [intOf]; omega⟩
      have hp : 2 ^ (8 * k) ≤ 2 ^ 32 := Nat.pow_le_pow_right (by omega) (by omega)
      have hp2 : bs[k].toNat * 2 ^ (8 * k) ≤ 255 * 2 ^ 32 := Nat.mul_le_mul (by omega) hp
      rw [or_shl_u64 _ _ _ (by omega) (by omega), Hw.out]
    · have he := wide_all bs k
      have hk5 : wide bs k = wide bs 5 := by
        by_cases h5 : k = 5
        · rw [h5]
        · exact he (by omega) g1
      have Hk5 := Lib.hid hk5
      clear he hk5 Hk
      rcases Nat.lt_or_ge k 5 with h5 | h5
      · have hr2 : bs.length ≤ k := by omega
        clear hr
        go_wp2_with (go_at_call 86; refine (skip_rd (hS.drewN _) n hn).mono ?_; rintro e w' ⟨rfl, hS'⟩)
        go_ret2
        refine ⟨ret2_int ?_ rfl, hS'⟩
        rw [div_pow_int, and_pow_u64 _ _ (Nat.lt_of_le_of_lt (Nat.div_le_self _ _) (by omega)) (by omega), Hk5.out, Hv.out, wrap64_id _ (by omega) (by omega)]
      · clear hr
        go_wp2_with (go_at_call 86; refine (skip_rd (hS.drewN _) n hn).mono ?_; rintro e w' ⟨rfl, hS'⟩)
        go_ret2
        refine ⟨ret2_int ?_ rfl, hS'⟩
        rw [div_pow_int, and_pow_u64 _ _ (Nat.lt_of_le_of_lt (Nat.div_le_self _ _) (by omega)) (by omega), Hk5.out, Hv.out, wrap64_id _ (by omega) (by omega)]

set_option maxHeartbeats 400000 in
/-- To a byte's beginning. -/
theorem align_rd {w : World} {r : Nat} {l : List Bool} {Rs : List Res} (hS : Sat w (rd r l :: Rs)) :
    Calls Try.prog 51 #[.pointer (some ⟨r, 0, none⟩)] w fun e w' => e = .returned (.int .i64 (l.length % 8 : Nat)) ∧ Sat w' (rd r (l.drop (l.length % 8)) :: Rs) := by
  obtain ⟨v, bs, off, h, h1, h2, hl, h3⟩ := rd_open hS
  obtain ⟨c0, c1, f0, f1⟩ := rd_cells h
  have hlen : l.length = 8 * bs.length - off := by rw [hl]; simp
  rcases Nat.eq_zero_or_pos off with h0 | h0
  · subst h0
    have hm : l.length % 8 = 0 := by omega
    have Hm := Lib.hid hm
    clear hm hlen hl
    go_enter Try.func51, Try.ntmps51
    go_wp2
    go_ret
    exact ⟨ret_int (by rw [Hm.out]; rfl), by rw [Hm.out]; exact hS⟩
  · have hm : l.length % 8 = 8 - off := by omega
    have hn : 8 - off ≤ l.length := by omega
    have he : ((8 : Int) - off) = ((8 - off : Nat) : Int) := by omega
    have Hm := Lib.hid hm
    have He := Lib.hid he
    have hz : ((off : Int) == 0) = false := by simp; omega
    clear hm hlen hl he
    go_enter Try.func51, Try.ntmps51
    go_wp2_with (go_at_call 86; rw [He.out]; refine (skip_rd hS _ hn).mono ?_; rintro e w' ⟨rfl, hS'⟩)
    go_ret
    exact ⟨ret_int (by rw [Hm.out]), by rw [Hm.out]; exact hS'⟩

set_option maxHeartbeats 400000 in
theorem new_rd {w : World} {Rs : List Res} (hS : Sat w Rs) :
    Calls Try.prog 46 #[] w fun e w' => e = .returned (.pointer (some ⟨w.heap.size, 0, none⟩)) ∧ Sat w' (rd w.heap.size [] :: Rs) := by
  go_enter Try.func46, Try.ntmps46
  go_wp2
  go_ret
  refine ⟨rfl, ?_⟩
  exact rd_shut (v := .slice none 0 0) (bs := []) (off := 0) ((hS.alloc _).sl_nil 5 1 none).swap (by omega) (by simp) rfl (by simp)

theorem Try.infoU8 : (Try.prog.info? 5).map (fun i => (i.zero, i.size, i.bytes)) = some (some (.int .u8 0), 1, 1) := by kernel_rfl

set_option maxHeartbeats 400000 in
theorem feed_rd {w : World} {r : Nat} {l : List Bool} {Rs : List Res} (hS : Sat w (rd r l :: Rs)) {v : Value} {ys : List UInt8} (hv : SlR w 5 1 ys.length v (ys.map byteV)) (hb : l.length + 8 * ys.length ≤ 1125899906842616) :
    Calls Try.prog 47 #[.pointer (some ⟨r, 0, none⟩), v] w fun e w' => e = .returned (.tuple #[]) ∧ Sat w' (rd r (l ++ bitsOf ys) :: Rs) := by
  obtain ⟨v0, bs, off, h, h1, h2, hl, h3⟩ := rd_open hS
  obtain ⟨c0, c1, f0, f1⟩ := rd_cells h
  have hlen : l.length = 8 * bs.length - off := by rw [hl]; simp
  have hn : bs.length + ys.length ≤ 140737488355328 := by omega
  have hsrc := hv.src (P := Try.prog) Try.underlying22 (byteV_one ys)
  have Hl := Lib.hid hl
  clear hl hlen
  obtain ⟨F, ao, cap, rfl, -, -, -, -⟩ := h.at_ 1 _ rfl
  obtain ⟨ao2, cap2, rfl, -, -, -, -⟩ := hv
  obtain ⟨i0, hi, hz0, hz1, hz2⟩ := info_parts Try.infoU8
  go_enter Try.func47, Try.ntmps47
  go_wp2_with (at_builtin; refine wpList_append_sat _ rfl _ _ 22 22 rfl 5 i0 (.int .u8 0) 1 1 Try.underlying22 hi hz0 hz1 hz2 rfl (by decide) bs.length _ _ _ rfl h.swap ys.length _ _ rfl hsrc ?_ ?_ ?_)
  · unfold maxLen; omega
  · omega
  · intro v' w' hS'
    obtain ⟨d0, d1, e0, e1⟩ := rd_cells hS'.swap
    obtain ⟨F', ao', cap', rfl, -, -, -, -⟩ := hS'.at_ 0 _ rfl
    go_wp2
    go_end0
    refine ⟨rfl, ?_⟩
    have g := hS'.swap.setCell (i := 0) (.slice ao' (bs.length + ys.length) cap')
    refine rd_shut (v := .slice ao' (bs.length + ys.length) cap') (bs := bs ++ ys) (off := off) ?_ h1 (by simp; omega) ?_ (by simp; omega)
    · simp only [List.length_append, List.map_append]
      exact g
    · rw [Hl.out, bitsOf_append, List.drop_append_of_le_length (by simpa using h2)]

set_option maxRecDepth 100000 in
set_option maxHeartbeats 400000 in
/-- Whole bytes, all of them. -/
theorem bytes_rd {w : World} {r : Nat} {bs : List UInt8} {Rs : List Res} (hS : Sat w (rd r (bitsOf bs) :: Rs)) (n : Nat) (hn : n = bs.length) :
    Calls Try.prog 58 #[.pointer (some ⟨r, 0, none⟩), .int .i64 n] w fun e w' => ∃ v, e = .returned v ∧ Sat w' (sl 5 1 bs.length v (bs.map byteV) :: rd r [] :: Rs) := by
  subst hn
  obtain ⟨v0, bs', off, h, h1, h2, hl, h3⟩ := rd_open hS
  obtain ⟨c0, c1, f0, f1⟩ := rd_cells h
  have hlen := congrArg List.length hl
  simp only [bitsOf_length, List.length_drop] at hlen
  obtain rfl : off = 0 := by omega
  obtain rfl : bs = bs' := bitsOf_inj _ _ (by simpa using hl)
  clear hl hlen
  rcases Nat.eq_zero_or_pos bs.length with h0 | h0
  · obtain rfl : bs = [] := List.eq_nil_of_length_eq_zero h0
    clear h0
    go_enter Try.func58, Try.ntmps58
    go_wp2
    go_ret
    exact ⟨_, rfl, hS.sl_nil _ _ _⟩
  · have hr := (h.pick [1] [_] rfl (by simp)).sl_read
    obtain ⟨ao, cap, rfl, k1, k2, k3, k4⟩ := hr
    obtain ⟨b, o, rfl, kb, hc⟩ := k4 (by omega)
    have hr2 : ∀ w' : World, w'.heap = (w.alloc (.cells #[] 5)).heap → SlR w' 5 1 bs.length (.slice (some ⟨b, o, none⟩) bs.length cap) (bs.map byteV) := by
      intro w' hw'
      refine ⟨_, cap, rfl, k1, k2, k3, fun _ => ⟨b, o, rfl, by rw [hw']; simp; omega, fun j u hu => ?_⟩⟩
      have e : w'.cell? ⟨b, o + j, none⟩ = (w.alloc (.cells #[] 5)).cell? ⟨b, o + j, none⟩ := by simp [World.cell?, hw']
      rw [e, World.cell?_alloc_lt _ _ _ kb]
      exact hc j u hu
    have Hsrc := Lib.hid (fun (w' : World) (hw' : w'.heap = (w.alloc (.cells #[] 5)).heap) => (hr2 w' hw').src (P := Try.prog) Try.underlying22 (byteV_one bs))
    clear hc k3 k4 hr2
    unfold maxLen at k2
    have hr0 : r < w.heap.size := (Array.getElem?_eq_some_iff.1 h.heap).1
    simp only [Int.natCast_zero] at c1
    have hmin : min (bs.length : Int) bs.length = bs.length := by omega
    obtain ⟨i0, hi, hz0, hz1, hz2⟩ := info_parts Try.infoU8
    go_enter Try.func58, Try.ntmps58
    go_wp2_with (at_builtin; refine wpList_append_sat _ rfl _ _ 22 22 rfl 5 i0 (.int .u8 0) 1 1 Try.underlying22 hi hz0 hz1 hz2 rfl (by decide) 0 _ _ _ rfl ((hS.alloc_drop _).sl_nil 5 1 (some _)) bs.length _ _ rfl (Hsrc.out _ rfl) ?_ ?_ ?_)
    · unfold maxLen; omega
    · omega
    · intro v' w' hS'
      go_wp2_with (go_at_call 86; rw [show (8 : Int) * bs.length = ((8 * bs.length : Nat) : Int) by simp]; refine (skip_rd hS'.swap _ (by simp)).mono ?_; rintro e w2 ⟨rfl, hS2⟩)
      go_ret
      refine ⟨v', rfl, ?_⟩
      rw [List.drop_of_length_le (by simp)] at hS2
      exact hS2.swap

end Go.Proofs.Ytdpocnkeokplpaa

namespace Go.Proofs.Ytdpocnkeokplpaa
open Go.RowKit Go.Hal
set_option linter.unusedVariables false
set_option linter.unusedSimpArgs false

def intV (x : Int) : Value := .int .i64 x
theorem intV_one (xs : List Int) : ∀ u ∈ xs.map intV, u.oneCell' = true := by
  intro u hu
  obtain ⟨b, -, rfl⟩ := List.mem_map.1 hu
  rfl
theorem ret_bool {a b : Bool} (h : a = b) : Ending.returned (.bool a) = .returned (.bool b) := by rw [h]
/-- A slice of ints that is read. -/
abbrev IntsR (w : World) (v : Value) (xs : List Int) : Prop := SlR w 3 1 xs.length v (xs.map intV)

/-- The lowest n bits of v the other way round. -/
def rev : Nat → Nat → Nat
  | 0, _ => 0
  | i + 1, v => 2 * rev i v + v / 2 ^ i % 2
theorem rev_lt (n v : Nat) : rev n v < 2 ^ n := by
  induction n with
  | zero => simp [rev]
  | succ n ih => simp only [rev, Nat.pow_succ]; omega

theorem or_i64_bit (a b : Nat) (ha : a < 2 ^ 60) (hb : b < 2) : bits .or .i64 (2 * (a : Int)) (b : Int) = ((2 * a + b : Nat) : Int) := by
  have e : 2 * (a : Int) = ((2 * a : Nat) : Int) := by simp
  rw [e, or_i64 _ _ (by omega) (by omega)]
  congr 1
  have := Nat.two_pow_add_eq_or_of_lt (i := 1) (b := b) (by omega) a
  simpa using this.symm

set_option maxHeartbeats 400000 in
theorem turned_any (v n : Nat) (w : World) (hv : v < 2 ^ 40) (hn : n ≤ 32) :
    Calls Try.prog 101 #[.int .i64 v, .int .i64 n] w fun e w' => e = .returned (.int .i64 (rev n v)) ∧ w = w' := by
  go_enter Try.func101, Try.ntmps101
  go_wp2
  go_loop [0, 5, 7] (fun x o i => ∃ k q r : Nat, k ≤ n ∧ q ≤ v ∧ r < 2 ^ 32 ∧ Hid (q = v / 2 ^ k ∧ r = rev k v) ∧ x = .int .i64 q ∧ o = .int .i64 r ∧ i = .int .i64 k) (fun _ _ i => n - (intOf i).toNat)
  case atStart => exact ⟨0, v, 0, by omega, by omega, by omega, ⟨by simp, rfl⟩, rfl, rfl, rfl⟩
  case round =>
    obtain ⟨k, q, r, hk, hq, hr, H, rfl, rfl, rfl⟩ := hrel
    by_cases hlt : k < n
    · go_wp2
      have hr2 := rev_lt (k + 1) v
      have hp : 2 ^ (k + 1) ≤ 2 ^ 32 := Nat.pow_le_pow_right (by omega) (by omega)
      have hs : rev (k + 1) v = 2 * r + q % 2 := by rw [H.out.1, H.out.2]; rfl
      refine ⟨⟨k + 1, q / 2, 2 * r + q % 2, by omega, by omega, by omega, ⟨?_, hs.symm⟩, vi (by omega), vi ?_, vi (by omega)⟩, by simp [intOf]; omega⟩
      · rw [H.out.1, Nat.div_div_eq_div_mul, Nat.pow_succ]
      · rw [and1 _ (by omega) (by omega)]
        have e1 : (r : Int) * 2 = 2 * (r : Int) := by omega
        have e2 : (q : Int) % 2 = ((q % 2 : Nat) : Int) := by omega
        rw [e1, e2, or_i64_bit _ _ (by omega) (by omega)]
    · obtain rfl : k = n := by omega
      go_wp2
      go_ret
      exact ⟨ret_int (by rw [H.out.2]), rfl⟩

/-- The element at a place of a slice that is read. -/
theorem IntsR.cell {w : World} {v : Value} {xs : List Int} (h : IntsR w v xs) : ∃ ao cap, v = .slice ao xs.length cap ∧ xs.length ≤ cap ∧ cap ≤ 9223372036854775807 ∧
    ∀ k (hk : k < xs.length), ∃ b o, ao = some ⟨b, o, none⟩ ∧ b < w.heap.size ∧ w.cell? ⟨b, o + k, none⟩ = some (.int .i64 xs[k]) := by
  obtain ⟨ao, cap, rfl, h1, h2, h3, h4⟩ := h
  refine ⟨ao, cap, rfl, h1, by unfold maxLen at h2; omega, fun k hk => ?_⟩
  obtain ⟨b, o, rfl, hb, hc⟩ := h4 (by omega)
  exact ⟨b, o, rfl, hb, hc k _ (by simp [intV, hk])⟩

theorem closure_any (x : Int) (w : World) : Calls Try.prog 100 #[.int .i64 x] w fun e w' => e = .returned (.bool (decide (x < 0 ∨ 15 < x))) ∧ w = w' := by
  by_cases h : x < 0
  all_goals
    go_enter Try.func100, Try.ntmps100
    go_wp2
    go_ret
    exact ⟨ret_bool (by simp [h] <;> omega), rfl⟩

/-- The first place of an int. -/
def idx (x : Int) : List Int → Int
  | [] => -1
  | y :: r => if x = y then 0 else if idx x r < 0 then -1 else idx x r + 1
theorem idx_neg (x : Int) (xs : List Int) : idx x xs < 0 ↔ x ∉ xs := by
  induction xs with
  | nil => simp [idx]
  | cons y r ih =>
    simp only [idx, List.mem_cons, not_or]
    by_cases h : x = y
    · simp [h]
    · simp only [h, if_false]
      by_cases h2 : idx x r < 0
      · simp [h2, ih.1 h2, h]
      · simp only [h2, if_false]
        have : x ∈ r := Classical.not_not.1 fun hn => h2 (ih.2 hn)
        simp [this]; omega

set_option maxHeartbeats 400000 in
theorem contains_any (x : Int) (v : Value) (xs : List Int) (w : World) (hv : IntsR w v xs) :
    Calls Try.prog 102 #[v, .int .i64 x] w fun e w' => e = .returned (.bool (decide (x ∈ xs))) ∧ w = w' := by
  have key : Calls Try.prog 110 #[v, .int .i64 x] w fun e w' => (∃ i : Int, e = .returned (.int .i64 i) ∧ (0 ≤ i ↔ x ∈ xs) ∧ -1 ≤ i) ∧ w = w' := by
    obtain ⟨ao, cap, rfl, h1, h2, hc⟩ := hv.cell
    have Hc := Lib.hid hc
    clear hc hv
    go_enter Try.func110, Try.ntmps110
    go_wp2
    go_loop [8] (fun i => ∃ k : Nat, k ≤ xs.length ∧ (∀ y ∈ xs.take k, y ≠ x) ∧ i = .int .i64 k) (fun i => xs.length - (intOf i).toNat)
    case atStart => exact ⟨0, by omega, by simp, rfl⟩
    case round =>
      obtain ⟨k, hk, hn, rfl⟩ := hrel
      have Hn := Lib.hid hn
      clear hn
      by_cases hlt : k < xs.length
      · obtain ⟨b, o, rfl, -, hc⟩ := Hc.out k hlt
        by_cases hx : xs[k] = x
        · have hx' : (x == xs[k]) = true := by simp [hx]
          have Hx := Lib.hid hx
          clear hx
          go_wp2
          go_ret
          exact ⟨⟨k, rfl, ⟨fun _ => by rw [← Hx.out]; simp, fun _ => by omega⟩, by omega⟩, rfl⟩
        · have hx' : (x == xs[k]) = false := by simp; exact fun e => hx e.symm
          have Hx := Lib.hid hx
          clear hx
          go_wp2
          refine ⟨⟨k + 1, by omega, ?_, vi (by omega)⟩, by simp [intOf]; omega⟩
          intro y hy
          rw [List.take_succ_eq_append_getElem hlt, List.mem_append] at hy
          rcases hy with hy | hy
          · exact Hn.out y hy
          · simp at hy; subst hy; exact Hx.out
      · obtain rfl : k = xs.length := by omega
        go_wp2
        go_ret
        have := Hn.out
        rw [List.take_length] at this
        exact ⟨⟨-1, rfl, ⟨fun h => by omega, fun h => (this x h rfl).elim⟩, by omega⟩, rfl⟩
  go_enter Try.func102, Try.ntmps102
  go_wp2_with (go_at_call 110; refine key.mono ?_; rintro e w' ⟨⟨i, rfl, h, h2⟩, rfl⟩)
  go_ret
  exact ⟨ret_bool (by simp [h]), rfl⟩

set_option maxHeartbeats 400000 in
theorem containsFunc_any (v : Value) (xs : List Int) (w : World) (hv : IntsR w v xs) :
    Calls Try.prog 99 #[v, .func (.func 100) #[] #[]] w fun e w' => e = .returned (.bool (decide (∃ x ∈ xs, x < 0 ∨ 15 < x))) ∧ w = w' := by
  have key : Calls Try.prog 109 #[v, .func (.func 100) #[] #[]] w fun e w' => (∃ i : Int, e = .returned (.int .i64 i) ∧ (0 ≤ i ↔ ∃ x ∈ xs, x < 0 ∨ 15 < x) ∧ -1 ≤ i) ∧ w = w' := by
    obtain ⟨ao, cap, rfl, h1, h2, hc⟩ := hv.cell
    have Hc := Lib.hid hc
    clear hc hv
    go_enter Try.func109, Try.ntmps109
    go_wp2
    go_loop [8] (fun i => ∃ k : Nat, k ≤ xs.length ∧ (∀ y ∈ xs.take k, ¬ (y < 0 ∨ 15 < y)) ∧ i = .int .i64 k) (fun i => xs.length - (intOf i).toNat)
    case atStart => exact ⟨0, by omega, by simp, rfl⟩
    case round =>
      obtain ⟨k, hk, hn, rfl⟩ := hrel
      have Hn := Lib.hid hn
      clear hn
      by_cases hlt : k < xs.length
      · obtain ⟨b, o, rfl, -, hc⟩ := Hc.out k hlt
        by_cases hx : xs[k] < 0 ∨ 15 < xs[k]
        · have hx' : decide (xs[k] < 0 ∨ 15 < xs[k]) = true := decide_eq_true hx
          have Hx := Lib.hid hx
          have Hxx := Lib.hid hx'
          clear hx hx'
          go_wp2_with (go_at_call 100; refine (closure_any _ _).mono ?_; rw [Hxx.out]; rintro e w' ⟨rfl, rfl⟩)
          go_ret
          exact ⟨⟨k, rfl, ⟨fun _ => ⟨xs[k], by simp, Hx.out⟩, fun _ => by omega⟩, by omega⟩, rfl⟩
        · have hx' : decide (xs[k] < 0 ∨ 15 < xs[k]) = false := decide_eq_false hx
          have Hx := Lib.hid hx
          have Hxx := Lib.hid hx'
          clear hx hx'
          go_wp2_with (go_at_call 100; refine (closure_any _ _).mono ?_; rw [Hxx.out]; rintro e w' ⟨rfl, rfl⟩)
          refine ⟨⟨k + 1, by omega, ?_, vi (by omega)⟩, by simp [intOf]; omega⟩
          intro y hy
          rw [List.take_succ_eq_append_getElem hlt, List.mem_append] at hy
          rcases hy with hy | hy
          · exact Hn.out y hy
          · simp at hy; subst hy; exact Hx.out
      · obtain rfl : k = xs.length := by omega
        go_wp2
        go_ret
        have := Hn.out
        rw [List.take_length] at this
        exact ⟨⟨-1, rfl, ⟨fun h => by omega, fun ⟨x, h1, h2⟩ => (this x h1 h2).elim⟩, by omega⟩, rfl⟩
  go_enter Try.func99, Try.ntmps99
  go_wp2_with (go_at_call 109; refine key.mono ?_; rintro e w' ⟨⟨i, rfl, h, h2⟩, rfl⟩)
  go_ret
  exact ⟨ret_bool (by simp [h]), rfl⟩

end Go.Proofs.Ytdpocnkeokplpaa

namespace Go.Hal
open Go.RowKit
set_option linter.unusedVariables false
set_option linter.unusedSimpArgs false

/-- How keys of a type are told apart: by their values. -/
structure KeyLaw (P : Program) (kt : TypeId) {K : Type} [DecidableEq K] (enc : K → Value) : Prop where
  check : ∀ e k w, (Instr.checkKey e 10000 kt (enc k)).run P w = .ok () w
  eq : ∀ k k' w, (Op.equal kt (enc k) (enc k')).run P w = .ok (decide (k = k')) w
  now : ∃ d, P.underlying kt = some d ∧ ∀ k k', Instr.sameNow d (enc k) (enc k') = none ∨ Instr.sameNow d (enc k) (enc k') = some (decide (k = k'))
  same : ∀ k, Instr.sameBits 10000 (enc k) (enc k) = true

/-- Where a key stands. -/
def place {K : Type} [DecidableEq K] (k : K) : List (K × Value) → Option Nat
  | [] => none
  | e :: r => if k = e.1 then some 0 else (place k r).map (· + 1)
/-- What a key has. -/
def has {K : Type} [DecidableEq K] (k : K) (D : List (K × Value)) : Option Value := (D.find? (fun e => decide (k = e.1))).map (·.2)
/-- A key gets a value. -/
def put {K : Type} [DecidableEq K] (k : K) (v : Value) (D : List (K × Value)) : List (K × Value) :=
  match place k D with
  | none => D ++ [(k, v)]
  | some i => D.set i (k, v)

section
variable {K : Type} [DecidableEq K]
theorem place_has (k : K) (D : List (K × Value)) : has k D = (place k D).bind (fun i => (D[i]?).map (·.2)) := by
  unfold has
  induction D with
  | nil => rfl
  | cons e r ih =>
    simp only [place, List.find?_cons]
    by_cases h : k = e.1
    · simp [h]
    · simp only [h, decide_false, if_false]
      rw [ih]
      cases place k r <;> simp
theorem place_lt {k : K} {D : List (K × Value)} {i : Nat} (h : place k D = some i) : ∃ v, D[i]? = some (k, v) := by
  induction D generalizing i with
  | nil => simp [place] at h
  | cons e r ih =>
    simp only [place] at h
    by_cases hk : k = e.1
    · simp only [hk, if_true, Option.some.injEq] at h
      subst h
      exact ⟨e.2, by simp [hk]⟩
    · simp only [hk, if_false, Option.map_eq_some_iff] at h
      obtain ⟨j, hj, rfl⟩ := h
      obtain ⟨v, hv⟩ := ih hj
      exact ⟨v, by simpa using hv⟩
theorem place_none {k : K} {D : List (K × Value)} : place k D = none ↔ ∀ e ∈ D, e.1 ≠ k := by
  induction D with
  | nil => simp [place]
  | cons e r ih =>
    simp only [place, List.mem_cons, forall_eq_or_imp]
    by_cases hk : k = e.1
    · simp [hk]
    · simp only [hk, if_false, Option.map_eq_none_iff, ih]
      exact ⟨fun h => ⟨fun e => hk e.symm, h⟩, fun h => h.2⟩
theorem has_none {k : K} {D : List (K × Value)} : has k D = none ↔ place k D = none := by
  rw [place_has]
  cases h : place k D with
  | none => simp
  | some i => obtain ⟨v, hv⟩ := place_lt h; simp [hv]
end

section
variable {P : Program} {K : Type} [DecidableEq K] {kt : TypeId} {enc : K → Value}

theorem run_findAsking (hk : KeyLaw P kt enc) (k : K) : ∀ (l : List MapEntry) (D : List (K × Value)) (i : Nat) (w : World), l.map (fun e => (e.key, e.val)) = D.map (fun e => (enc e.1, e.2)) →
    (Instr.findAsking kt (enc k) l i).run P w = .ok ((place k D).map (fun j => (i + j, ((D[j]?).map (·.2)).getD undef))) w := by
  intro l
  induction l with
  | nil =>
    intro D i w h
    cases D with
    | nil => rfl
    | cons _ _ => simp at h
  | cons e r ih =>
    intro D i w h
    cases D with
    | nil => simp at h
    | cons d D =>
      simp only [List.map_cons, List.cons.injEq, Prod.mk.injEq] at h
      obtain ⟨⟨h1, h2⟩, h3⟩ := h
      simp only [Instr.findAsking, Sem.run_bind, h1, hk.eq, Result.andThen_ok, place]
      by_cases hd : k = d.1
      · simp [hd, h2]
      · simp only [hd, decide_false, if_false, Bool.false_eq_true]
        rw [ih D (i + 1) w h3]
        cases place k D with
        | none => rfl
        | some j => simp [show i + 1 + j = i + (j + 1) by omega]

theorem findNow_enc {d : TypeDesc} (hn : ∀ k k', Instr.sameNow d (enc k) (enc k') = none ∨ Instr.sameNow d (enc k) (enc k') = some (decide (k = k'))) (k : K) : ∀ (l : List MapEntry) (D : List (K × Value)) (i : Nat), l.map (fun e => (e.key, e.val)) = D.map (fun e => (enc e.1, e.2)) →
    Instr.findNow d (enc k) l i = none ∨ Instr.findNow d (enc k) l i = some ((place k D).map (fun j => (i + j, ((D[j]?).map (·.2)).getD undef))) := by
  intro l
  induction l with
  | nil =>
    intro D i h
    cases D with
    | nil => right; rfl
    | cons _ _ => simp at h
  | cons e r ih =>
    intro D i h
    cases D with
    | nil => simp at h
    | cons x D =>
      simp only [List.map_cons, List.cons.injEq, Prod.mk.injEq] at h
      obtain ⟨⟨h1, h2⟩, h3⟩ := h
      simp only [Instr.findNow, h1, place]
      rcases hn k x.1 with h | h
      · left; rw [h]
      · rw [h]
        by_cases hd : k = x.1
        · right; simp [hd, h2]
        · simp only [hd, decide_false, if_false]
          rcases ih D (i + 1) h3 with h | h
          · left; exact h
          · right; rw [h]
            cases place k D with
            | none => rfl
            | some j => simp [show i + 1 + j = i + (j + 1) by omega]

theorem run_findKey_enc (hk : KeyLaw P kt enc) (k : K) (l : List MapEntry) (D : List (K × Value)) (w : World) (h : l.map (fun e => (e.key, e.val)) = D.map (fun e => (enc e.1, e.2))) :
    (Instr.findKey kt (enc k) l).run P w = .ok ((place k D).map (fun j => (j, ((D[j]?).map (·.2)).getD undef))) w := by
  obtain ⟨d, hd, hn⟩ := hk.now
  unfold Instr.findKey
  simp only [Sem.run_bind, run_underlying hd, Result.andThen_ok]
  rcases findNow_enc hn k l D 0 h with h' | h'
  · rw [h']
    simp only [run_findAsking hk k l D 0 w h]
    congr 2
    funext j; simp
  · rw [h']
    simp
end

/-- A map's block: its entries in their order; each with a stamp of its own. -/
def MapAt (F : Nat → Prop) (w : World) {K : Type} (enc : K → Value) (b : Nat) (D : List (K × Value)) : Prop :=
  F b ∧ ∃ es clock, w.heap[b]? = some (.map es clock) ∧ es.toList.map (fun e => (e.key, e.val)) = D.map (fun e => (enc e.1, e.2)) ∧ (∀ (i : Nat) (e : MapEntry), es[i]? = some e → e.born < clock) ∧
    ∀ (i j : Nat) (e f : MapEntry), es[i]? = some e → es[j]? = some f → e.born = f.born → i = j

def mp {K : Type} (enc : K → Value) (b : Nat) (D : List (K × Value)) : Res where
  P F w := MapAt F w enc b D
  carry F F' w w' := by
    rintro ⟨hf, es, clock, h1, h2, h3, h4⟩ hc
    obtain ⟨c1, c2⟩ := hc.block b (Array.getElem?_eq_some_iff.1 h1).1 hf
    exact ⟨c1, es, clock, c2.trans h1, h2, h3, h4⟩

theorem mp_owns {K : Type} (enc : K → Value) (b : Nat) (D : List (K × Value)) : (mp enc b D).owns b := fun _ _ h => h.1

theorem Sat.mp_new {w : World} {Rs : List Res} (hS : Sat w Rs) {K : Type} (enc : K → Value) : Sat (w.alloc (.map #[] 0)) (mp enc w.heap.size [] :: Rs) :=
  (hS.alloc _).conv (fun F hF => ⟨hF.1, #[], 0, hF.2, rfl, fun i e h => by simp at h, fun i j e f h => by simp at h⟩)

/-- A map's block is written anew. -/
def putMap (w : World) (b : Nat) (es : Array MapEntry) (c : Nat) : World :=
  { w with heap := w.heap.modify b fun | .map _ _ => .map es c | o => o }

section
variable (w : World) (b : Nat) (es : Array MapEntry) (c : Nat)
@[simp] theorem putMap_cell (a : Addr) : (putMap w b es c).cell? a = w.cell? a := by
  simp only [putMap, World.cell?, Array.getElem?_modify]
  by_cases h : b = a.block
  · simp only [h, if_true]
    cases hh : w.heap[a.block]? with
    | none => simp
    | some x => cases x <;> simp
  · simp [h]
@[simp] theorem putMap_frozen (a : Addr) : (putMap w b es c).frozen? a = w.frozen? a := by
  simp only [putMap, World.frozen?, Array.getElem?_modify]
  by_cases h : b = a.block
  · simp only [h, if_true]
    cases hh : w.heap[a.block]? with
    | none => simp
    | some x => cases x <;> simp
  · simp [h]
@[simp] theorem putMap_size : (putMap w b es c).heap.size = w.heap.size := by simp [putMap]
theorem putMap_heap {es0 : Array MapEntry} {c0 : Nat} (h : w.heap[b]? = some (.map es0 c0)) : (putMap w b es c).heap[b]? = some (.map es c) := by simp [putMap, Array.getElem?_modify, h]
theorem putMap_set {es0 : Array MapEntry} {c0 : Nat} (h : w.heap[b]? = some (.map es0 c0)) : { w with heap := w.heap.setIfInBounds b (.map es c) } = putMap w b es c := by
  unfold putMap
  congr 1
  refine Array.ext_getElem? fun i => ?_
  simp only [Array.getElem?_setIfInBounds, Array.getElem?_modify]
  by_cases hi : b = i
  · subst hi
    obtain ⟨hlt, hv⟩ := Array.getElem?_eq_some_iff.1 h
    simp [hlt, hv]
  · simp [hi]
theorem putMap_twice (es' : Array MapEntry) (c' : Nat) : putMap (putMap w b es c) b es' c' = putMap w b es' c' := by
  unfold putMap
  congr 1
  refine Array.ext (by simp) fun i h1 h2 => ?_
  simp only [Array.getElem_modify]
  by_cases hi : b = i
  · subst hi
    simp only [if_true]
    cases w.heap[b]'(by simpa using h2) <;> rfl
  · simp [hi]
theorem Mods.putMap {S : Nat → Prop} {a w : World} (h : Mods S a w) {b : Nat} (hb : S b ∨ a.heap.size ≤ b) (es : Array MapEntry) (c : Nat) : Mods S a (putMap w b es c) :=
  ⟨h.os, h.tape, h.output, by simpa using h.size, fun k hk hn => by
    have hkb : b ≠ k := by
      rintro rfl
      rcases hb with hb | hb
      · exact hn hb
      · omega
    simp only [Hal.putMap, Array.getElem?_modify, hkb, if_false]
    exact h.block k hk hn⟩
end

section
variable {P : Program} {K : Type} [DecidableEq K] {kt : TypeId} {enc : K → Value}

theorem run_lookup_enc (hk : KeyLaw P kt enc) {F : Nat → Prop} {w : World} {b : Nat} {D : List (K × Value)} (h : MapAt F w enc b D) (mt et : TypeId) (hm : P.underlying mt = some (.map kt et)) (z : Value) (hz : ∀ w : World, (zeroValue et).run P w = .ok z w) (k : K) (ok : Bool) :
    (Instr.lookup mt (.map (some b)) (enc k) ok).run P w = .ok (if ok then .tuple #[(has k D).getD z, .bool (has k D).isSome] else (has k D).getD z) w := by
  obtain ⟨-, es, clock, h1, h2, -, -⟩ := h
  unfold Instr.lookup
  simp only [Sem.run_bind, run_underlying hm, Result.andThen_ok, MapKept.run_getObj_map h1, Sem.run_pure, hk.check, run_findKey_enc hk k es.toList D w h2, place_has]
  cases hp : place k D with
  | none => cases ok <;> simp [hz]
  | some i =>
    obtain ⟨v, hv⟩ := place_lt hp
    cases ok <;> simp [hv]

theorem stays (hk : KeyLaw P kt enc) (k : K) (w : World) : (Instr.keyThatStays (enc k) (enc k)).run P w = .ok (enc k) w := by
  simp [Instr.keyThatStays, hk.same]

/-- The entries behind a store. -/
theorem run_mapUpdate_enc (hk : KeyLaw P kt enc) {F : Nat → Prop} {w : World} {b : Nat} {D : List (K × Value)} (h : MapAt F w enc b D) (mt et : TypeId) (hm : P.underlying mt = some (.map kt et)) (k : K) (v : Value) :
    ∃ es c, (Instr.mapUpdate mt (.map (some b)) (enc k) v).run P w = .ok () (putMap w b es c) ∧ MapAt F (putMap w b es c) enc b (put k v D) := by
  obtain ⟨hf, es, clock, h1, h2, h3, h4⟩ := h
  have hlen : es.size = D.length := by simpa using congrArg List.length h2
  unfold Instr.mapUpdate
  simp only [Sem.run_bind, run_underlying hm, Result.andThen_ok, MapKept.run_getObj_map h1, hk.check, run_findKey_enc hk k es.toList D w h2]
  unfold put
  cases hp : place k D with
  | none =>
    refine ⟨es.push { key := enc k, val := v, born := clock }, clock + 1, ?_, hf, _, _, putMap_heap w b _ _ h1, ?_, ?_, ?_⟩
    · simp only [Option.map_none]
      rw [MapKept.run_setObj_map _ h1, putMap_set w b _ _ h1]
    · simp [h2]
    · intro i e he
      rw [Array.getElem?_push] at he
      split at he
      · cases he; simp
      · have := h3 i e he; omega
    · intro i j e f he hf' hb
      rw [Array.getElem?_push] at he hf'
      split at he <;> split at hf'
      · omega
      · have := h3 j f hf'; cases he; simp at hb; omega
      · have := h3 i e he; cases hf'; simp at hb; omega
      · exact h4 i j e f he hf' hb
  | some i =>
    obtain ⟨u, hu⟩ := place_lt hp
    have hi : i < es.size := by rw [hlen]; exact (List.getElem?_eq_some_iff.1 hu).1
    have hkey : es[i].key = enc k := by
      have := congrArg (fun l => l[i]?) h2
      simp only [List.getElem?_map, hu, Array.getElem?_toList, Array.getElem?_eq_getElem hi, Option.map_some, Option.some.injEq, Prod.mk.injEq] at this
      exact this.1
    refine ⟨es.modify i fun e => { e with key := enc k, val := v }, clock, ?_, hf, _, _, putMap_heap w b _ _ h1, ?_, ?_, ?_⟩
    · simp only [Option.map_some, Array.getElem?_eq_getElem hi, Option.getD_some, hkey, stays hk, Sem.run_bind, Result.andThen_ok]
      rw [MapKept.run_setObj_map _ h1, putMap_set w b _ _ h1]
    · refine List.ext_getElem? fun j => ?_
      have hj := congrArg (fun l => l[j]?) h2
      simp only [List.getElem?_map, Array.getElem?_toList, Array.getElem?_modify, List.getElem?_set] at hj ⊢
      by_cases hij : i = j
      · subst hij
        simp [Array.getElem?_eq_getElem hi, show i < D.length by omega]
      · simp only [hij, if_false]; exact hj
    · intro j e he
      rw [Array.getElem?_modify] at he
      split at he
      · obtain ⟨x, hx, rfl⟩ := Option.map_eq_some_iff.1 he; exact h3 j x hx
      · exact h3 j e he
    · intro j l e f he hf' hb
      have q : ∀ (j : Nat) (e : MapEntry), (es.modify i fun e => { e with key := enc k, val := v })[j]? = some e → ∃ x, es[j]? = some x ∧ x.born = e.born := by
        intro j e he
        rw [Array.getElem?_modify] at he
        split at he
        · obtain ⟨x, hx, rfl⟩ := Option.map_eq_some_iff.1 he; exact ⟨x, hx, rfl⟩
        · exact ⟨e, he, rfl⟩
      obtain ⟨x, hx, ex⟩ := q j e he
      obtain ⟨y, hy, ey⟩ := q l f hf'
      exact h4 j l x y hx hy (by omega)

/-- 'm[k] = v' in two steps: the entry is found or laid (its stamp), then its value is stored. -/
theorem run_entry_enc (hk : KeyLaw P kt enc) {F : Nat → Prop} {w : World} {b : Nat} {D : List (K × Value)} (h : MapAt F w enc b D) (mt et : TypeId) (hm : P.underlying mt = some (.map kt et)) (z : Value) (hz : ∀ w : World, (zeroValue et).run P w = .ok z w) (k : K) (v : Value) :
    ∃ es c u stamp es' , (∀ w' : World, w'.heap[b]? = w.heap[b]? → (Instr.mapEntry mt (.map (some b)) (enc k)).run P w' = .ok (.tuple #[u, .int .i64 stamp]) (putMap w' b es c)) ∧
      (∀ w' : World, w'.heap[b]? = some (.map es c) → (Instr.entryStore mt (.map (some b)) (.int .i64 stamp) v).run P w' = .ok () (putMap w' b es' c)) ∧
      ∀ w' : World, w'.heap[b]? = some (.map es' c) → MapAt F w' enc b (put k v D) := by
  obtain ⟨hf, es, clock, h1, h2, h3, h4⟩ := h
  have hlen : es.size = D.length := by simpa using congrArg List.length h2
  cases hp : place k D with
  | none =>
    refine ⟨es.push { key := enc k, val := z, born := clock }, clock + 1, z, clock, es.push { key := enc k, val := v, born := clock }, fun w' hw => ?_, fun w' hw => ?_, fun w' hw => ?_⟩
    · have h1' := hw.trans h1
      unfold Instr.mapEntry
      simp only [Sem.run_bind, run_underlying hm, Result.andThen_ok, MapKept.run_getObj_map h1', hk.check, run_findKey_enc hk k es.toList D w' h2, hp, Option.map_none, hz]
      rw [MapKept.run_setObj_map _ h1', putMap_set w' b _ _ h1']
      rfl
    · unfold Instr.entryStore
      have hfi : (es.push { key := enc k, val := z, born := clock }).findIdx? (fun e => (e.born : Int) == (clock : Int)) = some es.size := by
        rw [Array.findIdx?_eq_some_iff_getElem]
        refine ⟨by simp, by simp, fun j hj => ?_⟩
        have := h3 j _ (Array.getElem?_eq_getElem hj)
        rw [Array.getElem_push_lt hj]
        simp; omega
      simp only [Sem.run_bind, Result.andThen_ok, MapKept.run_getObj_map hw, asInt, asIntOf, Sem.run_pure, hfi]
      rw [MapKept.run_setObj_map _ hw, putMap_set w' b _ _ hw]
      congr 2
      refine Array.ext (by simp) fun i q1 q2 => ?_
      simp only [Array.getElem_modify, Array.getElem_push]
      simp at q2
      by_cases hi : i < es.size
      · simp [hi, show es.size ≠ i by omega]
      · obtain rfl : i = es.size := by omega
        simp
    · refine ⟨hf, _, _, hw, ?_, ?_, ?_⟩
      · simp [h2, put, hp]
      · intro i e he
        rw [Array.getElem?_push] at he
        split at he
        · cases he; simp
        · have := h3 i e he; omega
      · intro i j e f he hf' hb
        rw [Array.getElem?_push] at he hf'
        split at he <;> split at hf'
        · omega
        · have := h3 j f hf'; cases he; simp at hb; omega
        · have := h3 i e he; cases hf'; simp at hb; omega
        · exact h4 i j e f he hf' hb
  | some i =>
    obtain ⟨u, hu⟩ := place_lt hp
    have hi : i < es.size := by rw [hlen]; exact (List.getElem?_eq_some_iff.1 hu).1
    have hkey : es[i].key = enc k := by
      have := congrArg (fun l => l[i]?) h2
      simp only [List.getElem?_map, hu, Array.getElem?_toList, Array.getElem?_eq_getElem hi, Option.map_some, Option.some.injEq, Prod.mk.injEq] at this
      exact this.1
    refine ⟨es.modify i fun e => { e with key := enc k }, clock, u, es[i].born, es.modify i fun e => { e with key := enc k, val := v }, fun w' hw => ?_, fun w' hw => ?_, fun w' hw => ?_⟩
    · have h1' := hw.trans h1
      unfold Instr.mapEntry
      simp only [Sem.run_bind, run_underlying hm, Result.andThen_ok, MapKept.run_getObj_map h1', hk.check, run_findKey_enc hk k es.toList D w' h2, hp, Option.map_some, hu, Option.getD_some, Array.getElem?_eq_getElem hi, hkey, stays hk]
      rw [MapKept.run_setObj_map _ h1', putMap_set w' b _ _ h1']
      rfl
    · unfold Instr.entryStore
      have hfi : (es.modify i fun e => { e with key := enc k }).findIdx? (fun e => (e.born : Int) == (es[i].born : Int)) = some i := by
        rw [Array.findIdx?_eq_some_iff_getElem]
        refine ⟨by simpa using hi, by simp [Array.getElem_modify], fun j hj => ?_⟩
        have hj' : j < es.size := by omega
        have hne : es[j].born ≠ es[i].born := fun e => by
          have := h4 j i _ _ (Array.getElem?_eq_getElem hj') (Array.getElem?_eq_getElem hi) e
          omega
        simp [Array.getElem_modify, show i ≠ j by omega]
        omega
      simp only [Sem.run_bind, Result.andThen_ok, MapKept.run_getObj_map hw, asInt, asIntOf, Sem.run_pure, hfi]
      rw [MapKept.run_setObj_map _ hw, putMap_set w' b _ _ hw]
      congr 2
      refine Array.ext (by simp) fun j q1 q2 => ?_
      simp only [Array.getElem_modify]
      by_cases hij : i = j <;> simp [hij]
    · refine ⟨hf, _, _, hw, ?_, ?_, ?_⟩
      · unfold put
        rw [hp]
        refine List.ext_getElem? fun j => ?_
        have hj := congrArg (fun l => l[j]?) h2
        simp only [List.getElem?_map, Array.getElem?_toList, Array.getElem?_modify, List.getElem?_set] at hj ⊢
        by_cases hij : i = j
        · subst hij
          simp [Array.getElem?_eq_getElem hi, show i < D.length by omega]
        · simp only [hij, if_false]; exact hj
      · intro j e he
        rw [Array.getElem?_modify] at he
        split at he
        · obtain ⟨x, hx, rfl⟩ := Option.map_eq_some_iff.1 he; exact h3 j x hx
        · exact h3 j e he
      · intro j l e f he hf' hb
        have q : ∀ (j : Nat) (e : MapEntry), (es.modify i fun e => { e with key := enc k, val := v })[j]? = some e → ∃ x, es[j]? = some x ∧ x.born = e.born := by
          intro j e he
          rw [Array.getElem?_modify] at he
          split at he
          · obtain ⟨x, hx, rfl⟩ := Option.map_eq_some_iff.1 he; exact ⟨x, hx, rfl⟩
          · exact ⟨e, he, rfl⟩
        obtain ⟨x, hx, ex⟩ := q j e he
        obtain ⟨y, hy, ey⟩ := q l f hf'
        exact h4 j l x y hx hy (by omega)
end

theorem Sat.mp_at {K : Type} {enc : K → Value} {w : World} {b : Nat} {D : List (K × Value)} {Rs : List Res} (hS : Sat w (mp enc b D :: Rs)) : MapAt (fun _ => True) w enc b D := by
  obtain ⟨F, hf, h⟩ := hS.first
  exact ⟨trivial, h⟩

/-- The map's block is written anew. -/
theorem Sat.mp_put {K : Type} {enc : K → Value} {w : World} {b : Nat} {D D' : List (K × Value)} {Rs : List Res} (hS : Sat w (mp enc b D :: Rs)) (es : Array MapEntry) (c : Nat)
    (h : MapAt (fun _ => True) (putMap w b es c) enc b D') : Sat (putMap w b es c) (mp enc b D' :: Rs) := by
  refine hS.upd (fun F hF => ⟨(Mods.refl F w).putMap (.inl hF.1) es c, fun F' h1 _ => ⟨h1 _ hF.1, h.2⟩⟩)

theorem run_len_mp {P : Program} {F : Nat → Prop} {w : World} {K : Type} {enc : K → Value} {b : Nat} {D : List (K × Value)} (h : MapAt F w enc b D) (mt kt et : TypeId) (hm : P.underlying mt = some (.map kt et)) (ty : TypeId) :
    (Builtin.len_ #[mt] ty #[.map (some b)]).run P w = .ok (.int .i64 (D.length : Nat)) w := by
  obtain ⟨-, es, clock, h1, h2, -, -⟩ := h
  have hlen : es.size = D.length := by simpa using congrArg List.length h2
  simp [Builtin.len_, run_underlying hm, MapKept.run_getObj_map h1, goInt, hlen]

theorem MapAt.size {F : Nat → Prop} {w : World} {K : Type} {enc : K → Value} {b : Nat} {D : List (K × Value)} (h : MapAt F w enc b D) : b < w.heap.size := by
  obtain ⟨-, es, c, h1, -⟩ := h
  exact (Array.getElem?_eq_some_iff.1 h1).1

@[simp] theorem heap_drew (w : World) : w.drew.heap = w.heap := rfl

end Go.Hal

namespace Go.Proofs.Ytdpocnkeokplpaa
open Go.RowKit Go.Hal
set_option linter.unusedVariables false
set_option linter.unusedSimpArgs false

/-- A word: how many bits, and which. -/
def encW (k : Nat × Nat) : Value := .agg #[.int .i64 (k.1 : Nat), .int .i64 (k.2 : Nat)]

theorem w_check (e : Bool) (a b : Int) (w : World) : (Instr.checkKey e 10000 153 (.agg #[.int .i64 a, .int .i64 b])).run Try.prog w = .ok () w := by kernel_rfl
theorem w_fields : Try.prog.underlying 153 = some (.struct (Try.prog.fieldsOf 153)) := by kernel_rfl
theorem w_stood : Try.prog.stoodInHeld 153 = false := by kernel_rfl
theorem w_eq (a b c d : Int) (w : World) : (Op.equal 153 (.agg #[.int .i64 a, .int .i64 b]) (.agg #[.int .i64 c, .int .i64 d])).run Try.prog w = .ok (a == c && b == d) w := by
  unfold Op.equal Op.maxDepth
  rw [run_equalIn_struct w 9999 153 _ _ w_fields w_stood]
  have ha : ∀ (t : Nat) (cs : Array Value) (o : Nat) (v : Value) (w : World), t = 3 → cs[o]? = some v → (part t cs o).run Try.prog w = .ok v w := by
    rintro t cs o v w rfl h
    unfold part isAgg
    simp [run_underlying Try.underlying3, h]
  have hi : ∀ (x y : Int) (w : World), (Op.equalIn 9999 3 (.int .i64 x) (.int .i64 y)).run Try.prog w = .ok (x == y) w := by
    intro x y w
    unfold Op.equalIn
    simp [run_underlying Try.underlying3]
  simp only [Program.fieldsOf, Try.underlying153]
  simp only [Op.eqFields]
  simp [ha, hi]
  by_cases h1 : a = c <;> by_cases h2 : b = d <;> simp [h1, h2]

theorem keyW : KeyLaw Try.prog 153 encW where
  check e k w := w_check e _ _ w
  eq k k' w := by
    unfold encW
    rw [w_eq]
    congr 1
    obtain ⟨a, b⟩ := k
    obtain ⟨c, d⟩ := k'
    rw [Bool.eq_iff_iff]
    simp
    omega
  now := ⟨_, w_fields, fun k k' => .inl rfl⟩
  same k := by
    simp [encW, Instr.sameBits]

/-- A map's header cell among others; a code's three cells. -/
def codeC (m1 : Nat) (vw : Value) (m2 : Nat) : Array Value := #[.map (some m1), vw, .map (some m2)]

/-- The words of symbols, in a row: how many bits, and which. -/
def rowC (ws : List (Nat × Nat)) : List Value := ws.flatMap fun k => [.int .i64 (k.1 : Nat), .int .i64 (k.2 : Nat)]
theorem rowC_length (ws : List (Nat × Nat)) : (rowC ws).length = ws.length * 2 := by
  induction ws with
  | nil => rfl
  | cons k r ih => simp only [rowC, List.flatMap_cons, List.length_append, List.length_cons, List.length_nil] at *; omega
theorem rowC_get (ws : List (Nat × Nat)) : ∀ s (h : s < ws.length), (rowC ws)[s * 2]? = some (.int .i64 (ws[s].1 : Nat)) ∧ (rowC ws)[s * 2 + 1]? = some (.int .i64 (ws[s].2 : Nat)) := by
  induction ws with
  | nil => intro s h; simp at h
  | cons k r ih =>
    intro s h
    cases s with
    | zero => simp [rowC]
    | succ s =>
      have := ih s (by simpa using h)
      simp only [rowC, List.flatMap_cons, List.getElem_cons_succ] at *
      rw [show (s + 1) * 2 = s * 2 + 2 by omega, show s * 2 + 2 + 1 = s * 2 + 1 + 2 by omega]
      exact this
theorem rowC_set (ws : List (Nat × Nat)) (s : Nat) (k : Nat × Nat) (h : s < ws.length) : ((rowC ws).set (s * 2) (.int .i64 (k.1 : Nat))).set (s * 2 + 1) (.int .i64 (k.2 : Nat)) = rowC (ws.set s k) := by
  induction ws generalizing s with
  | nil => simp at h
  | cons x r ih =>
    cases s with
    | zero => simp [rowC]
    | succ s =>
      have := ih s (by simpa using h)
      simp only [rowC, List.flatMap_cons, List.set_cons_succ] at *
      rw [show (s + 1) * 2 = s * 2 + 1 + 1 by omega, show s * 2 + 1 + 1 + 1 = s * 2 + 1 + 1 + 1 by omega, ← this]
      simp

end Go.Proofs.Ytdpocnkeokplpaa

namespace Go.Proofs.Ytdpocnkeokplpaa
open Go.RowKit Go.Hal
set_option linter.unusedVariables false
set_option linter.unusedSimpArgs false

/-- The symbols below s of length n. -/
def symsOf (L : List Nat) (n s : Nat) : List Nat := (List.range s).filter (fun t => L[t]? == some n)
/-- How many they are. -/
def rank (L : List Nat) (n s : Nat) : Nat := (symsOf L n s).length
/-- Behind the last word of length n. -/
def ends (L : List Nat) : Nat → Nat
  | 0 => 0
  | n + 1 => 2 * ends L n + rank L (n + 1) L.length
/-- A symbol's word as a number, its first bit the highest. -/
def codeOf (L : List Nat) (t : Nat) : Nat := 2 * ends L ((L[t]?).getD 0 - 1) + rank L ((L[t]?).getD 0) t
/-- A symbol's word. -/
def wd (L : List Nat) (t : Nat) : Nat × Nat := ((L[t]?).getD 0, rev ((L[t]?).getD 0) (codeOf L t))
/-- In which order symbols get words. -/
def ord (L : List Nat) : Nat → List Nat
  | 0 => []
  | n + 1 => ord L n ++ symsOf L (n + 1) L.length
def D1of (L : List Nat) (done : List Nat) : List ((Nat × Nat) × Value) := done.foldl (fun D t => Hal.put (wd L t) (.int .i64 (t : Nat)) D) []
/-- The beginnings of a word, of less than k bits. -/
def begs (w : Nat × Nat) (D : List ((Nat × Nat) × Value)) (k : Nat) : List ((Nat × Nat) × Value) := (List.range k).foldl (fun D j => Hal.put (j, w.2 % 2 ^ j) (.bool true) D) D
def D2of (L : List Nat) (done : List Nat) : List ((Nat × Nat) × Value) := done.foldl (fun D t => begs (wd L t) D (wd L t).1) []
def wsof (L : List Nat) (done : List Nat) : List (Nat × Nat) := done.foldl (fun ws t => ws.set t (wd L t)) (List.replicate L.length (0, 0))

theorem symsOf_succ (L : List Nat) (n s : Nat) : symsOf L n (s + 1) = if L[s]? = some n then symsOf L n s ++ [s] else symsOf L n s := by
  unfold symsOf
  rw [List.range_succ, List.filter_append]
  by_cases h : L[s]? = some n <;> simp [List.filter_cons, h]
theorem rank_succ (L : List Nat) (n s : Nat) : rank L n (s + 1) = rank L n s + if L[s]? = some n then 1 else 0 := by
  unfold rank
  rw [symsOf_succ]
  split <;> simp
theorem rank_le (L : List Nat) (n s : Nat) : rank L n s ≤ s := by
  unfold rank symsOf
  exact Nat.le_trans (List.length_filter_le _ _) (by simp)
theorem D1of_snoc (L done : List Nat) (t : Nat) : D1of L (done ++ [t]) = Hal.put (wd L t) (.int .i64 (t : Nat)) (D1of L done) := by simp [D1of]
theorem D2of_snoc (L done : List Nat) (t : Nat) : D2of L (done ++ [t]) = begs (wd L t) (D2of L done) (wd L t).1 := by simp [D2of]
theorem wsof_snoc (L done : List Nat) (t : Nat) : wsof L (done ++ [t]) = (wsof L done).set t (wd L t) := by simp [wsof]
theorem begs_succ (w : Nat × Nat) (D : List ((Nat × Nat) × Value)) (k : Nat) : begs w D (k + 1) = Hal.put (k, w.2 % 2 ^ k) (.bool true) (begs w D k) := by simp [begs, List.range_succ]
theorem wsof_length (L done : List Nat) : (wsof L done).length = L.length := by
  unfold wsof
  have h : ∀ (l : List Nat) (ws : List (Nat × Nat)), (l.foldl (fun ws t => ws.set t (wd L t)) ws).length = ws.length := by
    intro l
    induction l with
    | nil => intro ws; rfl
    | cons t r ih => intro ws; simp [ih]
  rw [h]; simp

theorem wd_eq (L : List Nat) (s k : Nat) (h : L[s]? = some (k + 1)) : wd L s = (k + 1, rev (k + 1) (2 * ends L k + rank L (k + 1) s)) := by
  unfold wd codeOf
  simp [h]

/-- What New lays, some of the symbols done. -/
def newRes (L : List Nat) (done : List Nat) (c m1 m2 : Nat) (vw : Value) (D2 : List ((Nat × Nat) × Value)) : List Res :=
  [blk c (.cells (codeC m1 vw m2) 150 (0, 0)), mp encW m1 (D1of L done), sl 153 2 L.length vw (rowC (wsof L done)), mp encW m2 D2]

/-- A code. -/
def code (c : Nat) (L : List Nat) : Res := ex fun x : Nat × Nat × Value => bag (newRes L (ord L 15) c x.1 x.2.1 x.2.2 (D2of L (ord L 15)))

/-- Lengths that are a code's, as New sees it. -/
def okL (L : List Nat) : Prop := (∀ m, m ≤ 15 → ends L m ≤ 2 ^ m) ∧ (ends L 15 = 2 ^ 15 ∨ (D1of L (ord L 15)).length = 0 ∨ ((D1of L (ord L 15)).length ≤ 1 ∧ 1 ∈ L))

theorem madeRow (n : Nat) : (madeCells #[.int .i64 0, .int .i64 0] (n * 2)).toList = rowC (List.replicate n (0, 0)) := by
  refine List.ext_getElem? fun j => ?_
  by_cases hj : j < n * 2
  · have h2 := rowC_get (List.replicate n (0, 0)) (j / 2) (by simp; omega)
    simp only [List.getElem_replicate] at h2
    rcases Nat.mod_two_eq_zero_or_one j with h | h
    · rw [show j / 2 * 2 = j by omega] at h2
      rw [h2.1]
      simp [madeCells, hj, h]
    · rw [show j / 2 * 2 + 1 = j by omega] at h2
      rw [h2.2]
      simp [madeCells, hj, h]
  · rw [List.getElem?_eq_none (by simp [madeCells]; omega), List.getElem?_eq_none (by rw [rowC_length]; simp; omega)]

theorem Try.infoWord : (Try.prog.info? 153).map (fun i => (i.zero, i.size, i.bytes)) = some (some (.agg #[.int .i64 0, .int .i64 0]), 2, 16) := by kernel_rfl

theorem make_words (n : Nat) (hn : n ≤ 288) (w : World) : (Instr.makeSlice 147 (.int .i64 n) (.int .i64 n)).run Try.prog w =
    .ok (.slice (some ⟨w.heap.size, 0, none⟩) n n) (w.alloc (.cells (madeCells #[.int .i64 0, .int .i64 0] (n * 2)) 153)) := by
  obtain ⟨i0, hi, hz0, hz1, hz2⟩ := info_parts Try.infoWord
  have h := run_make (P := Try.prog) w 147 153 i0 _ Try.underlying147 hi hz0 .i64 .i64 n n (by omega) (by omega) (by rw [hz2]; omega) (by omega)
  rw [h, hz1]
  simp [Value.cells]

end Go.Proofs.Ytdpocnkeokplpaa
