/- The law HuffFree: its walk. Package bits: the writer's contracts. huff.Code.Next in plain words; a reader of bytes; the law HuffBack. The reference of layer 5: begins and Next; of layer 1: Bits. The law HuffReads: its walk. The law HuffNil: a nil code, a nil reader, a reader of bytes of any number. -/
import Derived.Test.YtdpocnkeokplpaaQf
import Derived.Test.YtdpocnkeokplpaaQb
import Derived.Test.YtdpocnkeokplpaaQc
import Derived.OwnWalk
namespace Go.Proofs.Ytdpocnkeokplpaa
open Go.RowKit Go.Hal
set_option linter.unusedVariables false
set_option linter.unusedSimpArgs false

theorem mask_w (z j : Nat) (hz : z < 2 ^ 62) (hj : j ≤ 62) : bits .and .i64 (z : Int) (wrap64 (wrap64 (2 ^ j) - 1)) = ((z % 2 ^ j : Nat) : Int) := by
  have h1 : 2 ^ j ≤ 2 ^ 62 := Nat.pow_le_pow_right (by omega) hj
  have h0 : 0 < 2 ^ j := Nat.two_pow_pos j
  have e2 : ((2 : Int) ^ j) = ((2 ^ j : Nat) : Int) := by simp
  have e3 : wrap64 (wrap64 ((2 : Int) ^ j) - 1) = ((2 ^ j - 1 : Nat) : Int) := by
    rw [e2]
    generalize 2 ^ j = x at *
    have e4 : wrap64 (x : Int) = x := wrap64_id _ (by omega) (by omega)
    rw [e4, wrap64_id _ (by omega) (by omega)]
    omega
  rw [e3, and_i64 _ _ (by omega) (by omega), Nat.and_two_pow_sub_one_eq_mod]

end Go.Proofs.Ytdpocnkeokplpaa

namespace Go.Proofs.Ytdpocnkeokplpaa
open Go.RowKit Go.Hal
set_option linter.unusedVariables false
set_option linter.unusedSimpArgs false

/-- A bit is put into a byte. -/
def orBit (x : UInt8) (k : Nat) (b : Bool) : UInt8 := UInt8.ofNat (x.toNat ||| b.toNat * 2 ^ k)
theorem orBit_toNat (x : UInt8) (k : Nat) (b : Bool) (hk : k < 8) : (orBit x k b).toNat = x.toNat ||| b.toNat * 2 ^ k := by
  unfold orBit
  rw [UInt8.toNat_ofNat']
  refine Nat.mod_eq_of_lt ?_
  refine Nat.or_lt_two_pow x.toNat_lt ?_
  cases b
  · simp
  · simp only [Bool.toNat_true, Nat.one_mul]
    exact Nat.pow_lt_pow_right (by omega) hk
theorem orBit_testBit (x : UInt8) (k : Nat) (b : Bool) (hk : k < 8) (j : Nat) : (orBit x k b).toNat.testBit j = (x.toNat.testBit j || (b && decide (j = k))) := by
  rw [orBit_toNat x k b hk, Nat.testBit_or]
  congr 1
  cases b
  · simp
  · simp only [Bool.toNat_true, Nat.one_mul, Bool.true_and]
    rw [Nat.testBit_two_pow]
    by_cases h : j = k
    · simp [h]
    · have : ¬ k = j := fun e => h e.symm
      simp [h, this]

theorem pad_get (l : List Bool) (p k : Nat) (hk : k < l.length + p) : (l ++ List.replicate p false)[k]? = some ((l[k]?).getD false) := by
  rcases Nat.lt_or_ge k l.length with h | h
  · rw [List.getElem?_append_left h, List.getElem?_eq_getElem h]; rfl
  · rw [List.getElem?_append_right h, List.getElem?_replicate, if_pos (by omega), List.getElem?_eq_none h]; rfl
theorem one_get (l : List Bool) (b : Bool) (k : Nat) (hk : k ≠ l.length) : ((l ++ [b])[k]?).getD false = (l[k]?).getD false := by
  rcases Nat.lt_or_ge k l.length with h | h
  · rw [List.getElem?_append_left h]
  · rw [List.getElem?_eq_none (l := l ++ [b]) (by simp; omega), List.getElem?_eq_none h]

theorem put_bit (bs : List UInt8) (l : List Bool) (p : Nat) (b : Bool) (h : bitsOf bs = l ++ List.replicate (p + 1) false) (hl : l.length / 8 < bs.length) :
    bitsOf (bs.set (l.length / 8) (orBit bs[l.length / 8] (l.length % 8) b)) = (l ++ [b]) ++ List.replicate p false := by
  have hlen := congrArg List.length h
  simp only [bitsOf_length, List.length_append, List.length_replicate] at hlen
  refine List.ext_getElem? fun k => ?_
  by_cases hk : k < 8 * bs.length
  · rw [bitsOf_get _ k (by simpa using hk), pad_get _ _ _ (by simp; omega)]
    have h0 := bitsOf_get bs k hk
    rw [h, pad_get _ _ _ (by omega)] at h0
    have hkb : k / 8 < bs.length := by omega
    rw [List.getElem?_eq_getElem hkb, Option.map_some, Option.some.injEq] at h0
    rw [List.getElem?_set]
    by_cases e : l.length / 8 = k / 8
    · rw [if_pos e, if_pos hl, Option.map_some, orBit_testBit _ _ _ (by omega)]
      have hx : bs[l.length / 8] = bs[k / 8] := by simp only [e]
      rw [hx, ← h0]
      by_cases e2 : k = l.length
      · subst e2
        rw [List.getElem?_eq_none (Nat.le_refl _)]
        simp
      · have e3 : ¬ k % 8 = l.length % 8 := by omega
        rw [one_get _ _ _ e2]
        simp [e3]
    · have e2 : k ≠ l.length := by rintro rfl; exact e rfl
      rw [if_neg e, List.getElem?_eq_getElem hkb, Option.map_some, one_get _ _ _ e2, h0]
  · rw [List.getElem?_eq_none (by simp; omega), List.getElem?_eq_none (by simp; omega)]

/-- The two cells of a block. -/
theorem two_cells {w : World} {r : Nat} {Rs : List Res} {a b : Value} {t : TypeId} (hS : Sat w (blk r (.cells #[a, b] t (0, 0)) :: Rs)) :
    w.cell? ⟨r, 0, none⟩ = some a ∧ w.cell? ⟨r, 1, none⟩ = some b ∧ w.frozen? ⟨r, 0, none⟩ = false ∧ w.frozen? ⟨r, 1, none⟩ = false := by
  have h := hS.heap
  exact ⟨by rw [cell_of_row w r 0 _ _ _ h]; rfl, by rw [cell_of_row w r 1 _ _ _ h]; rfl, frozen_of_row w r 0 _ _ h, frozen_of_row w r 1 _ _ h⟩

/-- A writer that has these bits. -/
def wrt (r : Nat) (l : List Bool) : Res := ex fun x : Value × List UInt8 =>
  star (star (blk r (.cells #[x.1, .int .i64 (l.length : Nat)] 99 (0, 0))) (sl 5 1 x.2.length x.1 (x.2.map byteV)))
    (pur (x.2.length = (l.length + 7) / 8 ∧ bitsOf x.2 = l ++ List.replicate (8 * x.2.length - l.length) false))
theorem wrt_open {w : World} {r : Nat} {l : List Bool} {Rs : List Res} (hS : Sat w (wrt r l :: Rs)) :
    ∃ (v : Value) (bs : List UInt8), Sat w (blk r (.cells #[v, .int .i64 (l.length : Nat)] 99 (0, 0)) :: sl 5 1 bs.length v (bs.map byteV) :: Rs) ∧
      bs.length = (l.length + 7) / 8 ∧ bitsOf bs = l ++ List.replicate (8 * bs.length - l.length) false := by
  obtain ⟨⟨v, bs⟩, h⟩ := hS.ex_out
  have h2 := h.star_out
  have hp := (h2.at_ 1 _ rfl).choose_spec
  have h3 := Sat.perm (As := [_, _]) (Bs := [_]) h2 [0] rfl (by simp)
  exact ⟨v, bs, h3.star_out, hp⟩
theorem wrt_shut {w : World} {r : Nat} {l : List Bool} {Rs : List Res} {v : Value} {bs : List UInt8} (hS : Sat w (blk r (.cells #[v, .int .i64 (l.length : Nat)] 99 (0, 0)) :: sl 5 1 bs.length v (bs.map byteV) :: Rs))
    (h1 : bs.length = (l.length + 7) / 8) (h2 : bitsOf bs = l ++ List.replicate (8 * bs.length - l.length) false) : Sat w (wrt r l :: Rs) := by
  refine Sat.ex_in (v, bs) ?_
  refine hS.star_in.conv (fun F hF => ⟨fun _ => True, ?_, ⟨h1, h2⟩⟩)
  obtain ⟨G, ha, hb⟩ := hF
  exact ⟨G, by simpa using ha, by simpa using hb⟩

theorem newWriter_any {w : World} {Rs : List Res} (hS : Sat w Rs) :
    Calls Try.prog 30 #[] w fun e w' => ∃ r, e = .returned (.pointer (some ⟨r, 0, none⟩)) ∧ Sat w' (wrt r [] :: Rs) := by
  go_enter Try.func30, Try.ntmps30
  go_wp2
  go_ret
  refine ⟨_, rfl, ?_⟩
  exact wrt_shut (v := .slice none 0 0) (bs := []) ((hS.alloc _).sl_nil 5 1 none).swap (by simp) (by simp)

/-- The lowest n bits of a number. -/
def low (v n : Nat) : List Bool := (List.range n).map fun i => v.testBit i
theorem low_succ (v n : Nat) : low v (n + 1) = low v n ++ [v.testBit n] := by simp [low, List.range_succ]
theorem low_length (v n : Nat) : (low v n).length = n := by simp [low]
theorem num_low (v n : Nat) : num (low v n) = v % 2 ^ n := by
  refine (num_eq fun k => ?_).symm
  rw [Nat.testBit_mod_two_pow]
  unfold low
  rw [List.getElem?_map]
  by_cases h : k < n
  · rw [List.getElem?_range h]; simp [h]
  · rw [List.getElem?_eq_none (by simp; omega)]; simp [h]

theorem wraps_u8 (n : Int) (h₀ : 0 ≤ n) (h₁ : n < 2 ^ 8) : IntKind.u8.wrap n = n := by
  rw [IntKind.wrap_u8']; omega
theorem or_put (z : UInt8) (x d : Nat) (b : Bool) (hd : d = b.toNat) (hx : x < 8) :
    bits .or .u8 (z.toNat : Int) (IntKind.u8.wrap (IntKind.u8.wrap (d : Int) * 2 ^ min (IntKind.u64.wrap (x : Int)).toNat 8)) = ((orBit z x b).toNat : Int) := by
  have e : min (IntKind.u64.wrap (x : Int)).toNat 8 = x := by rw [u64_id _ (by omega) (by omega)]; omega
  have hd1 : d ≤ 1 := by rw [hd]; cases b <;> simp
  have hp : d * 2 ^ x < 2 ^ 8 := by
    have h1 : 2 ^ x ≤ 2 ^ 7 := Nat.pow_le_pow_right (by omega) (by omega)
    have h2 : d * 2 ^ x ≤ 1 * 2 ^ 7 := Nat.mul_le_mul hd1 h1
    omega
  have e1 : IntKind.u8.wrap (d : Int) = d := wraps_u8 _ (by omega) (by omega)
  have e2 : ((d : Int) * 2 ^ x) = ((d * 2 ^ x : Nat) : Int) := by simp
  rw [e, e1, e2, wraps_u8 _ (by omega) (by exact_mod_cast hp), (bits_nat .u8 8 (by decide) wraps_u8 z.toNat _ z.toNat_lt hp).2, orBit_toNat _ _ _ hx, hd]

set_option maxRecDepth 100000 in
set_option maxHeartbeats 2000000 in
theorem put_wrt {w : World} {r : Nat} {l : List Bool} {Rs : List Res} (hS : Sat w (wrt r l :: Rs)) (v n : Nat) (hv : v < 2 ^ 60) (hn : n ≤ 32) (hl : l.length ≤ 1099511627776) :
    Calls Try.prog 38 #[.pointer (some ⟨r, 0, none⟩), .int .i64 v, .int .i64 n] w fun e w' => e = .returned (.tuple #[]) ∧ Sat w' (wrt r (l ++ low v n) :: Rs) := by
  have hmin : min (n : Int) 32 = n := by omega
  obtain ⟨i0, hi, hz0, hz1, hz2⟩ := info_parts Try.infoU8
  go_enter Try.func38, Try.ntmps38
  go_wp2
  go_loopw [1, 10] (fun x i wr => ∃ k q : Nat, k ≤ n ∧ Hid (q = v / 2 ^ k) ∧ q < 2 ^ 60 ∧ x = .int .i64 q ∧ i = .int .i64 k ∧ Sat wr (wrt r (l ++ low v k) :: Rs)) (fun _ i _ => n - (intOf i).toNat)
  case atStart => exact ⟨0, v, by omega, by unfold Hid; simp, hv, rfl, rfl, by simpa [low] using hS⟩
  case round =>
    obtain ⟨k, q, hk, Hq, hq, rfl, rfl, hS1⟩ := hrel
    by_cases hlt : k < n
    · have hd : decide (k < n) = true := decide_eq_true hlt
      obtain ⟨bv, bs, hS2, hb1, hb2⟩ := wrt_open hS1
      obtain ⟨m, hm⟩ : ∃ m, m = (l ++ low v k).length := ⟨_, rfl⟩
      have hml : m ≤ 1099511627808 := by rw [hm, List.length_append, low_length]; omega
      rw [← hm] at hS2 hb1 hb2
      have hq2 : q / 2 = v / 2 ^ (k + 1) := by rw [Hq.out, Nat.div_div_eq_div_mul, Nat.pow_succ]
      have hbit : bits .and .i64 (q : Int) 1 = ((v.testBit k).toNat : Nat) := by
        rw [and1 _ (by omega) (by omega), testBit_div, ← Hq.out]; omega
      have hfin : ∀ (W : World) (v' : Value) (bs' : List UInt8), bs'.length = (m + 8) / 8 → bitsOf bs' = (l ++ low v (k + 1)) ++ List.replicate (8 * bs'.length - (m + 1)) false →
          Sat W (blk r (.cells #[v', .int .i64 ((m : Int) + 1)] 99 (0, 0)) :: sl 5 1 bs'.length v' (bs'.map byteV) :: Rs) → Sat W (wrt r (l ++ low v (k + 1)) :: Rs) := by
        intro W v' bs' h1 h2 h3
        have hm1 : (l ++ low v (k + 1)).length = m + 1 := by rw [hm, low_succ]; simp [low_length]; omega
        refine wrt_shut (v := v') (bs := bs') ?_ (by rw [hm1, h1]) (by rw [hm1]; exact h2)
        rw [hm1]
        have e : (((m + 1 : Nat)) : Int) = (m : Int) + 1 := by omega
        rw [e]
        exact h3
      have Hfin := Lib.hid hfin
      have Hbit := Lib.hid hbit
      have Hq2 := Lib.hid hq2
      have Hm := Lib.hid hm
      have Hb1 := Lib.hid hb1
      have Hb2 := Lib.hid hb2
      obtain ⟨F, ao, cap, rfl, -, -, -, -⟩ := hS2.at_ 1 _ rfl
      obtain ⟨c0, c1, f0, f1⟩ := two_cells hS2
      obtain ⟨x, Hx⟩ : ∃ x, Hid (x = m % 8) := ⟨_, Lib.hid rfl⟩
      have hx8 : x < 8 := by rw [Hx.out]; omega
      have h7 : bits .and .i64 (m : Int) 7 = (x : Nat) := by
        rw [and7 _ (by omega) (by omega), Hx.out]; omega
      clear hfin hbit hq2 hm hb1 hb2
      by_cases hx0 : x = 0
      · have hx1 : ((x : Int) == 0) = true := by simp [hx0]
        have Hx0 := Lib.hid hx0
        have hA := hS2.sl_made (e := 5) (size := 1) (n := 1) (cap := 1) (cur := #[.int .u8 0]) (xs := [.int .u8 0]) (by omega) (by decide) rfl (by simp) (fun j u hu => by simpa using hu)
        have hsrc := SlR.src (P := Try.prog) hA.sl_read Try.underlying22 (by simp [Value.oneCell'])
        have hA2 := Sat.perm (As := [_, _, _]) hA [2, 1] [_, _] rfl (by simp)
        have Hsrc := Lib.hid hsrc
        have hbl : bs.length ≤ 137438953480 := by rw [Hb1.out]; omega
        clear hx0 hA hsrc
        go_wp2_with (at_builtin; refine wpList_append_sat _ rfl _ _ 22 22 rfl 5 i0 (.int .u8 0) 1 1 Try.underlying22 hi hz0 hz1 hz2 rfl (by decide) bs.length _ _ _ rfl hA2 1 _ _ rfl Hsrc.out ?_ ?_ ?_)
        · unfold maxLen; omega
        · omega
        · intro v' w' hS5
          obtain ⟨F5, ao5, cap5, rfl, -, -, -, -⟩ := hS5.first
          obtain ⟨d0, d1, e0, e1⟩ := two_cells hS5.swap
          have hS6 := Sat.setCell (i := 0) hS5.swap (.slice ao5 (bs.length + 1) cap5)
          go_wp2
          generalize (w'.setCell ⟨r, 0, none⟩ (.slice ao5 (bs.length + 1) cap5)) = W at hS6 ⊢
          obtain ⟨bs2, Hbs2⟩ : ∃ bs2, Hid (bs2 = bs ++ [0]) := ⟨_, Lib.hid rfl⟩
          have hS7 : Sat W (blk r (.cells #[.slice ao5 bs2.length cap5, .int .i64 (m : Nat)] 99 (0, 0)) :: sl 5 1 bs2.length (.slice ao5 bs2.length cap5) (bs2.map byteV) :: Rs) := by
            rw [Hbs2.out, List.length_append, List.map_append]; exact hS6
          have Hlen2 : Hid (bs2.length = m / 8 + 1) := by
            unfold Hid; rw [Hbs2.out, List.length_append, Hb1.out, List.length_singleton]; have := Hx.out; have := Hx0.out; omega
          have Hbits2 : Hid (bitsOf bs2 = (l ++ low v k) ++ List.replicate (8 * bs2.length - m) false) := by
            unfold Hid
            have h8 : 8 * bs.length = m := by rw [Hb1.out]; have := Hx.out; have := Hx0.out; omega
            have hb2 := Hb2.out
            rw [h8, Nat.sub_self, List.replicate_zero, List.append_nil] at hb2
            rw [Hbs2.out, bitsOf_append, hb2, List.length_append, List.length_singleton, show 8 * (bs.length + 1) - m = 8 by omega]
            rfl
          have hlb : bs.length + 1 = bs2.length := by rw [Hbs2.out]; simp
          simp only [hlb]
          obtain ⟨y, Hy⟩ : ∃ y, Hid (y = m / 8) := ⟨_, Lib.hid rfl⟩
          obtain ⟨ao2, rfl⟩ : ∃ a, a = ao5 := ⟨_, rfl⟩
          obtain ⟨cap2, rfl⟩ : ∃ c, c = cap5 := ⟨_, rfl⟩
          clear hS6 hS5 hA2 hS2 hS1 d0 d1 e0 e1 c0 c1 f0 f1 hlb hx1

          have hy8 : (m : Int) / 8 = (y : Nat) := by rw [Hy.out]; omega
          have hyl : y < bs2.length := by rw [Hy.out, Hlen2.out]; omega
          obtain ⟨b2, o2, cap3, heq, -, -, -, hc2, hf2⟩ := (hS7.front 1 _ rfl).sl_cells (by omega)
          simp only [Value.slice.injEq, true_and] at heq
          obtain ⟨rfl, rfl⟩ := heq
          obtain ⟨z, Hz⟩ : ∃ z : UInt8, Hid (z = bs2[y]) := ⟨_, Lib.hid rfl⟩
          have hcy := hc2 y (.int .u8 z.toNat) (by rw [List.getElem?_map, List.getElem?_eq_getElem hyl, Hz.out]; rfl)
          have hfy := hf2 y
          obtain ⟨e0, e1, -, -⟩ := two_cells hS7
          have hz := UInt8.toNat_lt z
          obtain ⟨d, Hd⟩ : ∃ d, Hid (d = (v.testBit k).toNat) := ⟨_, Lib.hid rfl⟩
          have hbit := Hbit.out
          rw [← Hd.out] at hbit
          have hd1 : d ≤ 1 := by rw [Hd.out]; cases v.testBit k <;> simp
          have hyn : (y : Int) < (bs2.length : Int) := by omega
          clear hc2 hf2
          refine wp_region_hz (z := 23) (S := fun w' => w'.cell? ⟨r, 0, none⟩ = some (.slice (some ⟨b2, o2, none⟩) bs2.length cap2) ∧ w'.cell? ⟨r, 1, none⟩ = some (.int .i64 m) ∧ w'.cell? ⟨b2, o2 + y, none⟩ = some (.int .u8 z.toNat)) (by kernel_rfl) ⟨e0, e1, hcy⟩ (fun hHeld => ?_)
          refine wpHz_taken 0 27 ?v1 (by kernel_rfl) (by kernel_rfl) (by kernel_rfl) (by kernel_rfl) (by kernel_rfl) (fun _ _ _ h => h) (by rfl) ?hy1 (by assumption) ?rest1
          case hy1 => intro w hSw; (try dsimp only at hSw); simp only [List.getElem?_toArray, List.getElem?_cons_zero, List.getElem?_cons_succ]; go_simp; (try with_reducible rfl)
          try simp only [Act.put, List.setIfInBounds_toArray, List.set_cons_zero, List.set_cons_succ]
          refine wpHz_taken 1 28 ?v2 (by kernel_rfl) (by kernel_rfl) (by kernel_rfl) (by kernel_rfl) (by kernel_rfl) (fun _ _ _ h => h) (by rfl) ?hy2 (by assumption) ?rest2
          case hy2 => intro w hSw; (try dsimp only at hSw); simp only [List.getElem?_toArray, List.getElem?_cons_zero, List.getElem?_cons_succ]; go_simp; (try with_reducible rfl)
          try simp only [Act.put, List.setIfInBounds_toArray, List.set_cons_zero, List.set_cons_succ]
          refine wpHz_taken 2 29 ?v3 (by kernel_rfl) (by kernel_rfl) (by kernel_rfl) (by kernel_rfl) (by kernel_rfl) (fun _ _ _ h => h) (by rfl) ?hy3 (by assumption) ?rest3
          case hy3 => intro w hSw; (try dsimp only at hSw); simp only [List.getElem?_toArray, List.getElem?_cons_zero, List.getElem?_cons_succ]; go_simp; (try with_reducible rfl)
          try simp only [Act.put, List.setIfInBounds_toArray, List.set_cons_zero, List.set_cons_succ]
          refine wpHz_taken 3 30 ?v4 (by kernel_rfl) (by kernel_rfl) (by kernel_rfl) (by kernel_rfl) (by kernel_rfl) (fun _ _ _ h => h) (by rfl) ?hy4 (by assumption) ?rest4
          case hy4 => intro w hSw; (try dsimp only at hSw); simp only [List.getElem?_toArray, List.getElem?_cons_zero, List.getElem?_cons_succ]; go_simp; (try with_reducible rfl)
          try simp only [Act.put, List.setIfInBounds_toArray, List.set_cons_zero, List.set_cons_succ]
          refine wpHz_taken 4 31 ?v5 (by kernel_rfl) (by kernel_rfl) (by kernel_rfl) (by kernel_rfl) (by kernel_rfl) (fun _ _ _ h => h) (by rfl) ?hy5 (by assumption) ?rest5
          case hy5 => intro w hSw; (try dsimp only at hSw); simp only [List.getElem?_toArray, List.getElem?_cons_zero, List.getElem?_cons_succ]; go_simp; (try with_reducible rfl)
          try simp only [Act.put, List.setIfInBounds_toArray, List.set_cons_zero, List.set_cons_succ]
          refine wpHz_taken 5 32 ?v6 (by kernel_rfl) (by kernel_rfl) (by kernel_rfl) (by kernel_rfl) (by kernel_rfl) (fun _ _ _ h => h) (by rfl) ?hy6 (by assumption) ?rest6
          case hy6 => intro w hSw; (try dsimp only at hSw); simp only [List.getElem?_toArray, List.getElem?_cons_zero, List.getElem?_cons_succ]; go_simp; (try with_reducible rfl)
          try simp only [Act.put, List.setIfInBounds_toArray, List.set_cons_zero, List.set_cons_succ]
          refine wpHz_taken 6 33 ?v7 (by kernel_rfl) (by kernel_rfl) (by kernel_rfl) (by kernel_rfl) (by kernel_rfl) (fun _ _ _ h => h) (by rfl) ?hy7 (by assumption) ?rest7
          case hy7 => intro w hSw; (try dsimp only at hSw); simp only [List.getElem?_toArray, List.getElem?_cons_zero, List.getElem?_cons_succ]; go_simp; (try with_reducible rfl)
          try simp only [Act.put, List.setIfInBounds_toArray, List.set_cons_zero, List.set_cons_succ]
          refine wpHz_taken 7 34 ?v8 (by kernel_rfl) (by kernel_rfl) (by kernel_rfl) (by kernel_rfl) (by kernel_rfl) (fun _ _ _ h => h) (by rfl) ?hy8 (by assumption) ?rest8
          case hy8 => intro w hSw; (try dsimp only at hSw); simp only [List.getElem?_toArray, List.getElem?_cons_zero, List.getElem?_cons_succ]; go_simp; (try with_reducible rfl)
          try simp only [Act.put, List.setIfInBounds_toArray, List.set_cons_zero, List.set_cons_succ]
          refine wpHz_taken 8 35 ?v9 (by kernel_rfl) (by kernel_rfl) (by kernel_rfl) (by kernel_rfl) (by kernel_rfl) (fun _ _ _ h => h) (by rfl) ?hy9 (by assumption) ?rest9
          case hy9 => intro w hSw; (try dsimp only at hSw); simp only [List.getElem?_toArray, List.getElem?_cons_zero, List.getElem?_cons_succ]; go_simp; (try with_reducible rfl)
          try simp only [Act.put, List.setIfInBounds_toArray, List.set_cons_zero, List.set_cons_succ]
          refine wpHz_taken 9 36 ?v10 (by kernel_rfl) (by kernel_rfl) (by kernel_rfl) (by kernel_rfl) (by kernel_rfl) (fun _ _ _ h => h) (by rfl) ?hy10 (by assumption) ?rest10
          case hy10 => intro w hSw; (try dsimp only at hSw); simp only [List.getElem?_toArray, List.getElem?_cons_zero, List.getElem?_cons_succ]; go_simp; (try with_reducible rfl)
          try simp only [Act.put, List.setIfInBounds_toArray, List.set_cons_zero, List.set_cons_succ]
          refine wpHz_taken 10 37 ?v11 (by kernel_rfl) (by kernel_rfl) (by kernel_rfl) (by kernel_rfl) (by kernel_rfl) (fun _ _ _ h => h) (by rfl) ?hy11 (by assumption) ?rest11
          case hy11 => intro w hSw; (try dsimp only at hSw); simp only [List.getElem?_toArray, List.getElem?_cons_zero, List.getElem?_cons_succ]; go_simp; (try with_reducible rfl)
          try simp only [Act.put, List.setIfInBounds_toArray, List.set_cons_zero, List.set_cons_succ]
          refine wpHz_taken 11 38 ?v12 (by kernel_rfl) (by kernel_rfl) (by kernel_rfl) (by kernel_rfl) (by kernel_rfl) (fun _ _ _ h => h) (by rfl) ?hy12 (by assumption) ?rest12
          case hy12 => intro w hSw; (try dsimp only at hSw); simp only [List.getElem?_toArray, List.getElem?_cons_zero, List.getElem?_cons_succ]; go_simp; (try with_reducible rfl)
          try simp only [Act.put, List.setIfInBounds_toArray, List.set_cons_zero, List.set_cons_succ]
          refine wpHz_taken 12 39 ?v13 (by kernel_rfl) (by kernel_rfl) (by kernel_rfl) (by kernel_rfl) (by kernel_rfl) (fun _ _ _ h => h) (by rfl) ?hy13 (by assumption) ?rest13
          case hy13 => intro w hSw; (try dsimp only at hSw); simp only [List.getElem?_toArray, List.getElem?_cons_zero, List.getElem?_cons_succ]; go_simp; (try with_reducible rfl)
          try simp only [Act.put, List.setIfInBounds_toArray, List.set_cons_zero, List.set_cons_succ]
          refine wpHz_taken 13 40 ?v14 (by kernel_rfl) (by kernel_rfl) (by kernel_rfl) (by kernel_rfl) (by kernel_rfl) (fun _ _ _ h => h) (by rfl) ?hy14 (by assumption) ?rest14
          case hy14 => intro w hSw; (try dsimp only at hSw); simp only [List.getElem?_toArray, List.getElem?_cons_zero, List.getElem?_cons_succ]; go_simp; (try with_reducible rfl)
          try simp only [Act.put, List.setIfInBounds_toArray, List.set_cons_zero, List.set_cons_succ]
          refine wpHz_taken 14 41 ?v15 (by kernel_rfl) (by kernel_rfl) (by kernel_rfl) (by kernel_rfl) (by kernel_rfl) (fun _ _ _ h => h) (by rfl) ?hy15 (by assumption) ?rest15
          case hy15 => intro w hSw; (try dsimp only at hSw); simp only [List.getElem?_toArray, List.getElem?_cons_zero, List.getElem?_cons_succ]; go_simp; (try with_reducible rfl)
          try simp only [Act.put, List.setIfInBounds_toArray, List.set_cons_zero, List.set_cons_succ]
          refine wpHz_taken 15 42 ?v16 (by kernel_rfl) (by kernel_rfl) (by kernel_rfl) (by kernel_rfl) (by kernel_rfl) (fun _ _ _ h => h) (by rfl) ?hy16 (by assumption) ?rest16
          case hy16 => intro w hSw; (try dsimp only at hSw); simp only [List.getElem?_toArray, List.getElem?_cons_zero, List.getElem?_cons_succ]; go_simp; (try with_reducible rfl)
          try simp only [Act.put, List.setIfInBounds_toArray, List.set_cons_zero, List.set_cons_succ]
          refine wpHz_taken 16 43 ?v17 (by kernel_rfl) (by kernel_rfl) (by kernel_rfl) (by kernel_rfl) (by kernel_rfl) (fun _ _ _ h => h) (by rfl) ?hy17 (by assumption) ?rest17
          case hy17 => intro w hSw; (try dsimp only at hSw); simp only [List.getElem?_toArray, List.getElem?_cons_zero, List.getElem?_cons_succ]; go_simp; (try with_reducible rfl)
          try simp only [Act.put, List.setIfInBounds_toArray, List.set_cons_zero, List.set_cons_succ]
          refine wpHz_taken 17 44 ?v18 (by kernel_rfl) (by kernel_rfl) (by kernel_rfl) (by kernel_rfl) (by kernel_rfl) (fun _ _ _ h => h) (by rfl) ?hy18 (by assumption) ?rest18
          case hy18 => intro w hSw; (try dsimp only at hSw); simp only [List.getElem?_toArray, List.getElem?_cons_zero, List.getElem?_cons_succ]; go_simp; (try with_reducible rfl)
          try simp only [Act.put, List.setIfInBounds_toArray, List.set_cons_zero, List.set_cons_succ]
          refine wpHz_taken 18 45 ?v19 (by kernel_rfl) (by kernel_rfl) (by kernel_rfl) (by kernel_rfl) (by kernel_rfl) (fun _ _ _ h => h) (by rfl) ?hy19 (by assumption) ?rest19
          case hy19 => intro w hSw; (try dsimp only at hSw); simp only [List.getElem?_toArray, List.getElem?_cons_zero, List.getElem?_cons_succ]; go_simp; (try with_reducible rfl)
          try simp only [Act.put, List.setIfInBounds_toArray, List.set_cons_zero, List.set_cons_succ]
          refine wpHz_taken 19 46 ?v20 (by kernel_rfl) (by kernel_rfl) (by kernel_rfl) (by kernel_rfl) (by kernel_rfl) (fun _ _ _ h => h) (by rfl) ?hy20 (by assumption) ?rest20
          case hy20 => intro w hSw; (try dsimp only at hSw); simp only [List.getElem?_toArray, List.getElem?_cons_zero, List.getElem?_cons_succ]; go_simp; (try with_reducible rfl)
          try simp only [Act.put, List.setIfInBounds_toArray, List.set_cons_zero, List.set_cons_succ]
          refine wpHz_taken 20 47 ?v21 (by kernel_rfl) (by kernel_rfl) (by kernel_rfl) (by kernel_rfl) (by kernel_rfl) (fun _ _ _ h => h) (by rfl) ?hy21 (by assumption) ?rest21
          case hy21 => intro w hSw; (try dsimp only at hSw); simp only [List.getElem?_toArray, List.getElem?_cons_zero, List.getElem?_cons_succ]; go_simp; (try with_reducible rfl)
          try simp only [Act.put, List.setIfInBounds_toArray, List.set_cons_zero, List.set_cons_succ]
          refine wpHz_taken 21 48 ?v22 (by kernel_rfl) (by kernel_rfl) (by kernel_rfl) (by kernel_rfl) (by kernel_rfl) (fun _ _ _ h => h) (by rfl) ?hy22 (by assumption) ?rest22
          case hy22 => intro w hSw; (try dsimp only at hSw); simp only [List.getElem?_toArray, List.getElem?_cons_zero, List.getElem?_cons_succ]; go_simp; (try with_reducible rfl)
          try simp only [Act.put, List.setIfInBounds_toArray, List.set_cons_zero, List.set_cons_succ]
          refine wpHz_taken 22 49 ?v23 (by kernel_rfl) (by kernel_rfl) (by kernel_rfl) (by kernel_rfl) (by kernel_rfl) (fun _ _ _ h => h) (by rfl) ?hy23 (by assumption) ?rest23
          case hy23 => intro w hSw; (try dsimp only at hSw); simp only [List.getElem?_toArray, List.getElem?_cons_zero, List.getElem?_cons_succ]; go_simp; (try with_reducible rfl)
          try simp only [Act.put, List.setIfInBounds_toArray, List.set_cons_zero, List.set_cons_succ]
          refine wpHz_one 23 (by kernel_rfl) (by rfl) (fun K hK => ?_)
          simp only [List.getElem?_toArray, List.getElem?_cons_zero, List.getElem?_cons_succ]
          go_simp
          rw [or_put z x d (v.testBit k) Hd.out hx8]
          refine hK.out _ _ (fun h => absurd rfl h) (fun _ => ?_)
          clear hK K
          try simp only [Act.put, List.setIfInBounds_toArray, List.set_cons_zero, List.set_cons_succ]
          refine wpHz_done (by kernel_rfl) ?_ _
          have hval : (bs2.map byteV).set y (.int .u8 (orBit z x (v.testBit k)).toNat) = (bs2.set y (orBit z x (v.testBit k))).map byteV := by
            rw [List.map_set]; rfl
          have hS8 := (Sat.sl_set hS7.swap y (by simpa using hyl) (.int .u8 (orBit z x (v.testBit k)).toNat)).drew
          rw [hval] at hS8
          obtain ⟨p0, p1, q0, q1⟩ := two_cells hS8.swap
          generalize (W.setCell ⟨b2, o2 + y, none⟩ (.int .u8 (orBit z x (v.testBit k)).toNat)).drew = W9 at hS8 p0 p1 q0 q1 ⊢
          have hS9 := Sat.setCell (i := 1) hS8.swap (.int .i64 ((m : Int) + 1))
          have hbits9 := put_bit bs2 (l ++ low v k) (8 * bs2.length - m - 1) (v.testBit k) (by rw [Hbits2.out]; congr 2; rw [Hlen2.out]; omega) (by rw [← Hm.out, Hlen2.out]; omega)
          have hidx : ∀ (i : Nat) (hi : i < bs2.length), i = y → bs2[i] = z := by
            intro i hi e; subst e; exact Hz.out.symm
          have HW9 := Lib.hid hS9
          have Hbits9 := Lib.hid hbits9
          have Hidx := Lib.hid hidx
          clear hS7 hS8 hcy hfy e0 e1 hbit hval hbits9 hidx hS9
          go_wp2
          go_roundw
          case rel =>
            refine ⟨k + 1, q / 2, by omega, Hq2.out, by omega, vi (by omega), by go_num, ?_⟩
            refine Hfin.out _ (.slice (some ⟨b2, o2, none⟩) bs2.length cap2) (bs2.set y (orBit z x (v.testBit k))) (by rw [List.length_set, Hlen2.out]; omega) ?_ ?_
            · have h1 := Hbits9.out
              rw [Hidx.out _ _ (by rw [← Hm.out, Hy.out])] at h1
              rw [← Hm.out, ← Hx.out, ← Hy.out] at h1
              rw [h1, List.length_set, low_succ, Nat.sub_sub]; simp only [List.append_assoc]
            · rw [List.length_set]
              exact HW9.out
          case measure => simp [intOf]; omega
      · have hx1 : ((x : Int) == 0) = false := by simp; omega
        have hx0' : ¬ m % 8 = 0 := by rw [← Hx.out]; exact hx0
        go_wp2
        obtain ⟨bs2, Hbs2⟩ : ∃ bs2, Hid (bs2 = bs) := ⟨_, Lib.hid rfl⟩
        obtain rfl : bs2 = bs := Hbs2.out
        have Hlen2 : Hid (bs2.length = m / 8 + 1) := by
          unfold Hid; rw [Hb1.out]; omega
        have Hbits2 := Hb2
        have hS7 := hS2
        obtain ⟨y, Hy⟩ : ∃ y, Hid (y = m / 8) := ⟨_, Lib.hid rfl⟩
        obtain ⟨ao2, rfl⟩ : ∃ a, a = ao := ⟨_, rfl⟩
        obtain ⟨cap2, rfl⟩ : ∃ c, c = cap := ⟨_, rfl⟩
        clear hS1 hS2 c0 c1 f0 f1 hx1

        have hy8 : (m : Int) / 8 = (y : Nat) := by rw [Hy.out]; omega
        have hyl : y < bs2.length := by rw [Hy.out, Hlen2.out]; omega
        obtain ⟨b2, o2, cap3, heq, -, -, -, hc2, hf2⟩ := (hS7.front 1 _ rfl).sl_cells (by omega)
        simp only [Value.slice.injEq, true_and] at heq
        obtain ⟨rfl, rfl⟩ := heq
        obtain ⟨z, Hz⟩ : ∃ z : UInt8, Hid (z = bs2[y]) := ⟨_, Lib.hid rfl⟩
        have hcy := hc2 y (.int .u8 z.toNat) (by rw [List.getElem?_map, List.getElem?_eq_getElem hyl, Hz.out]; rfl)
        have hfy := hf2 y
        obtain ⟨e0, e1, -, -⟩ := two_cells hS7
        have hz := UInt8.toNat_lt z
        obtain ⟨d, Hd⟩ : ∃ d, Hid (d = (v.testBit k).toNat) := ⟨_, Lib.hid rfl⟩
        have hbit := Hbit.out
        rw [← Hd.out] at hbit
        have hd1 : d ≤ 1 := by rw [Hd.out]; cases v.testBit k <;> simp
        have hyn : (y : Int) < (bs2.length : Int) := by omega
        clear hc2 hf2
        refine wp_region_hz (z := 23) (S := fun w' => w'.cell? ⟨r, 0, none⟩ = some (.slice (some ⟨b2, o2, none⟩) bs2.length cap2) ∧ w'.cell? ⟨r, 1, none⟩ = some (.int .i64 m) ∧ w'.cell? ⟨b2, o2 + y, none⟩ = some (.int .u8 z.toNat)) (by kernel_rfl) ⟨e0, e1, hcy⟩ (fun hHeld => ?_)
        refine wpHz_taken 0 27 ?v24 (by kernel_rfl) (by kernel_rfl) (by kernel_rfl) (by kernel_rfl) (by kernel_rfl) (fun _ _ _ h => h) (by rfl) ?hy24 (by assumption) ?rest24
        case hy24 => intro w hSw; (try dsimp only at hSw); simp only [List.getElem?_toArray, List.getElem?_cons_zero, List.getElem?_cons_succ]; go_simp; (try with_reducible rfl)
        try simp only [Act.put, List.setIfInBounds_toArray, List.set_cons_zero, List.set_cons_succ]
        refine wpHz_taken 1 28 ?v25 (by kernel_rfl) (by kernel_rfl) (by kernel_rfl) (by kernel_rfl) (by kernel_rfl) (fun _ _ _ h => h) (by rfl) ?hy25 (by assumption) ?rest25
        case hy25 => intro w hSw; (try dsimp only at hSw); simp only [List.getElem?_toArray, List.getElem?_cons_zero, List.getElem?_cons_succ]; go_simp; (try with_reducible rfl)
        try simp only [Act.put, List.setIfInBounds_toArray, List.set_cons_zero, List.set_cons_succ]
        refine wpHz_taken 2 29 ?v26 (by kernel_rfl) (by kernel_rfl) (by kernel_rfl) (by kernel_rfl) (by kernel_rfl) (fun _ _ _ h => h) (by rfl) ?hy26 (by assumption) ?rest26
        case hy26 => intro w hSw; (try dsimp only at hSw); simp only [List.getElem?_toArray, List.getElem?_cons_zero, List.getElem?_cons_succ]; go_simp; (try with_reducible rfl)
        try simp only [Act.put, List.setIfInBounds_toArray, List.set_cons_zero, List.set_cons_succ]
        refine wpHz_taken 3 30 ?v27 (by kernel_rfl) (by kernel_rfl) (by kernel_rfl) (by kernel_rfl) (by kernel_rfl) (fun _ _ _ h => h) (by rfl) ?hy27 (by assumption) ?rest27
        case hy27 => intro w hSw; (try dsimp only at hSw); simp only [List.getElem?_toArray, List.getElem?_cons_zero, List.getElem?_cons_succ]; go_simp; (try with_reducible rfl)
        try simp only [Act.put, List.setIfInBounds_toArray, List.set_cons_zero, List.set_cons_succ]
        refine wpHz_taken 4 31 ?v28 (by kernel_rfl) (by kernel_rfl) (by kernel_rfl) (by kernel_rfl) (by kernel_rfl) (fun _ _ _ h => h) (by rfl) ?hy28 (by assumption) ?rest28
        case hy28 => intro w hSw; (try dsimp only at hSw); simp only [List.getElem?_toArray, List.getElem?_cons_zero, List.getElem?_cons_succ]; go_simp; (try with_reducible rfl)
        try simp only [Act.put, List.setIfInBounds_toArray, List.set_cons_zero, List.set_cons_succ]
        refine wpHz_taken 5 32 ?v29 (by kernel_rfl) (by kernel_rfl) (by kernel_rfl) (by kernel_rfl) (by kernel_rfl) (fun _ _ _ h => h) (by rfl) ?hy29 (by assumption) ?rest29
        case hy29 => intro w hSw; (try dsimp only at hSw); simp only [List.getElem?_toArray, List.getElem?_cons_zero, List.getElem?_cons_succ]; go_simp; (try with_reducible rfl)
        try simp only [Act.put, List.setIfInBounds_toArray, List.set_cons_zero, List.set_cons_succ]
        refine wpHz_taken 6 33 ?v30 (by kernel_rfl) (by kernel_rfl) (by kernel_rfl) (by kernel_rfl) (by kernel_rfl) (fun _ _ _ h => h) (by rfl) ?hy30 (by assumption) ?rest30
        case hy30 => intro w hSw; (try dsimp only at hSw); simp only [List.getElem?_toArray, List.getElem?_cons_zero, List.getElem?_cons_succ]; go_simp; (try with_reducible rfl)
        try simp only [Act.put, List.setIfInBounds_toArray, List.set_cons_zero, List.set_cons_succ]
        refine wpHz_taken 7 34 ?v31 (by kernel_rfl) (by kernel_rfl) (by kernel_rfl) (by kernel_rfl) (by kernel_rfl) (fun _ _ _ h => h) (by rfl) ?hy31 (by assumption) ?rest31
        case hy31 => intro w hSw; (try dsimp only at hSw); simp only [List.getElem?_toArray, List.getElem?_cons_zero, List.getElem?_cons_succ]; go_simp; (try with_reducible rfl)
        try simp only [Act.put, List.setIfInBounds_toArray, List.set_cons_zero, List.set_cons_succ]
        refine wpHz_taken 8 35 ?v32 (by kernel_rfl) (by kernel_rfl) (by kernel_rfl) (by kernel_rfl) (by kernel_rfl) (fun _ _ _ h => h) (by rfl) ?hy32 (by assumption) ?rest32
        case hy32 => intro w hSw; (try dsimp only at hSw); simp only [List.getElem?_toArray, List.getElem?_cons_zero, List.getElem?_cons_succ]; go_simp; (try with_reducible rfl)
        try simp only [Act.put, List.setIfInBounds_toArray, List.set_cons_zero, List.set_cons_succ]
        refine wpHz_taken 9 36 ?v33 (by kernel_rfl) (by kernel_rfl) (by kernel_rfl) (by kernel_rfl) (by kernel_rfl) (fun _ _ _ h => h) (by rfl) ?hy33 (by assumption) ?rest33
        case hy33 => intro w hSw; (try dsimp only at hSw); simp only [List.getElem?_toArray, List.getElem?_cons_zero, List.getElem?_cons_succ]; go_simp; (try with_reducible rfl)
        try simp only [Act.put, List.setIfInBounds_toArray, List.set_cons_zero, List.set_cons_succ]
        refine wpHz_taken 10 37 ?v34 (by kernel_rfl) (by kernel_rfl) (by kernel_rfl) (by kernel_rfl) (by kernel_rfl) (fun _ _ _ h => h) (by rfl) ?hy34 (by assumption) ?rest34
        case hy34 => intro w hSw; (try dsimp only at hSw); simp only [List.getElem?_toArray, List.getElem?_cons_zero, List.getElem?_cons_succ]; go_simp; (try with_reducible rfl)
        try simp only [Act.put, List.setIfInBounds_toArray, List.set_cons_zero, List.set_cons_succ]
        refine wpHz_taken 11 38 ?v35 (by kernel_rfl) (by kernel_rfl) (by kernel_rfl) (by kernel_rfl) (by kernel_rfl) (fun _ _ _ h => h) (by rfl) ?hy35 (by assumption) ?rest35
        case hy35 => intro w hSw; (try dsimp only at hSw); simp only [List.getElem?_toArray, List.getElem?_cons_zero, List.getElem?_cons_succ]; go_simp; (try with_reducible rfl)
        try simp only [Act.put, List.setIfInBounds_toArray, List.set_cons_zero, List.set_cons_succ]
        refine wpHz_taken 12 39 ?v36 (by kernel_rfl) (by kernel_rfl) (by kernel_rfl) (by kernel_rfl) (by kernel_rfl) (fun _ _ _ h => h) (by rfl) ?hy36 (by assumption) ?rest36
        case hy36 => intro w hSw; (try dsimp only at hSw); simp only [List.getElem?_toArray, List.getElem?_cons_zero, List.getElem?_cons_succ]; go_simp; (try with_reducible rfl)
        try simp only [Act.put, List.setIfInBounds_toArray, List.set_cons_zero, List.set_cons_succ]
        refine wpHz_taken 13 40 ?v37 (by kernel_rfl) (by kernel_rfl) (by kernel_rfl) (by kernel_rfl) (by kernel_rfl) (fun _ _ _ h => h) (by rfl) ?hy37 (by assumption) ?rest37
        case hy37 => intro w hSw; (try dsimp only at hSw); simp only [List.getElem?_toArray, List.getElem?_cons_zero, List.getElem?_cons_succ]; go_simp; (try with_reducible rfl)
        try simp only [Act.put, List.setIfInBounds_toArray, List.set_cons_zero, List.set_cons_succ]
        refine wpHz_taken 14 41 ?v38 (by kernel_rfl) (by kernel_rfl) (by kernel_rfl) (by kernel_rfl) (by kernel_rfl) (fun _ _ _ h => h) (by rfl) ?hy38 (by assumption) ?rest38
        case hy38 => intro w hSw; (try dsimp only at hSw); simp only [List.getElem?_toArray, List.getElem?_cons_zero, List.getElem?_cons_succ]; go_simp; (try with_reducible rfl)
        try simp only [Act.put, List.setIfInBounds_toArray, List.set_cons_zero, List.set_cons_succ]
        refine wpHz_taken 15 42 ?v39 (by kernel_rfl) (by kernel_rfl) (by kernel_rfl) (by kernel_rfl) (by kernel_rfl) (fun _ _ _ h => h) (by rfl) ?hy39 (by assumption) ?rest39
        case hy39 => intro w hSw; (try dsimp only at hSw); simp only [List.getElem?_toArray, List.getElem?_cons_zero, List.getElem?_cons_succ]; go_simp; (try with_reducible rfl)
        try simp only [Act.put, List.setIfInBounds_toArray, List.set_cons_zero, List.set_cons_succ]
        refine wpHz_taken 16 43 ?v40 (by kernel_rfl) (by kernel_rfl) (by kernel_rfl) (by kernel_rfl) (by kernel_rfl) (fun _ _ _ h => h) (by rfl) ?hy40 (by assumption) ?rest40
        case hy40 => intro w hSw; (try dsimp only at hSw); simp only [List.getElem?_toArray, List.getElem?_cons_zero, List.getElem?_cons_succ]; go_simp; (try with_reducible rfl)
        try simp only [Act.put, List.setIfInBounds_toArray, List.set_cons_zero, List.set_cons_succ]
        refine wpHz_taken 17 44 ?v41 (by kernel_rfl) (by kernel_rfl) (by kernel_rfl) (by kernel_rfl) (by kernel_rfl) (fun _ _ _ h => h) (by rfl) ?hy41 (by assumption) ?rest41
        case hy41 => intro w hSw; (try dsimp only at hSw); simp only [List.getElem?_toArray, List.getElem?_cons_zero, List.getElem?_cons_succ]; go_simp; (try with_reducible rfl)
        try simp only [Act.put, List.setIfInBounds_toArray, List.set_cons_zero, List.set_cons_succ]
        refine wpHz_taken 18 45 ?v42 (by kernel_rfl) (by kernel_rfl) (by kernel_rfl) (by kernel_rfl) (by kernel_rfl) (fun _ _ _ h => h) (by rfl) ?hy42 (by assumption) ?rest42
        case hy42 => intro w hSw; (try dsimp only at hSw); simp only [List.getElem?_toArray, List.getElem?_cons_zero, List.getElem?_cons_succ]; go_simp; (try with_reducible rfl)
        try simp only [Act.put, List.setIfInBounds_toArray, List.set_cons_zero, List.set_cons_succ]
        refine wpHz_taken 19 46 ?v43 (by kernel_rfl) (by kernel_rfl) (by kernel_rfl) (by kernel_rfl) (by kernel_rfl) (fun _ _ _ h => h) (by rfl) ?hy43 (by assumption) ?rest43
        case hy43 => intro w hSw; (try dsimp only at hSw); simp only [List.getElem?_toArray, List.getElem?_cons_zero, List.getElem?_cons_succ]; go_simp; (try with_reducible rfl)
        try simp only [Act.put, List.setIfInBounds_toArray, List.set_cons_zero, List.set_cons_succ]
        refine wpHz_taken 20 47 ?v44 (by kernel_rfl) (by kernel_rfl) (by kernel_rfl) (by kernel_rfl) (by kernel_rfl) (fun _ _ _ h => h) (by rfl) ?hy44 (by assumption) ?rest44
        case hy44 => intro w hSw; (try dsimp only at hSw); simp only [List.getElem?_toArray, List.getElem?_cons_zero, List.getElem?_cons_succ]; go_simp; (try with_reducible rfl)
        try simp only [Act.put, List.setIfInBounds_toArray, List.set_cons_zero, List.set_cons_succ]
        refine wpHz_taken 21 48 ?v45 (by kernel_rfl) (by kernel_rfl) (by kernel_rfl) (by kernel_rfl) (by kernel_rfl) (fun _ _ _ h => h) (by rfl) ?hy45 (by assumption) ?rest45
        case hy45 => intro w hSw; (try dsimp only at hSw); simp only [List.getElem?_toArray, List.getElem?_cons_zero, List.getElem?_cons_succ]; go_simp; (try with_reducible rfl)
        try simp only [Act.put, List.setIfInBounds_toArray, List.set_cons_zero, List.set_cons_succ]
        refine wpHz_taken 22 49 ?v46 (by kernel_rfl) (by kernel_rfl) (by kernel_rfl) (by kernel_rfl) (by kernel_rfl) (fun _ _ _ h => h) (by rfl) ?hy46 (by assumption) ?rest46
        case hy46 => intro w hSw; (try dsimp only at hSw); simp only [List.getElem?_toArray, List.getElem?_cons_zero, List.getElem?_cons_succ]; go_simp; (try with_reducible rfl)
        try simp only [Act.put, List.setIfInBounds_toArray, List.set_cons_zero, List.set_cons_succ]
        refine wpHz_one 23 (by kernel_rfl) (by rfl) (fun K hK => ?_)
        simp only [List.getElem?_toArray, List.getElem?_cons_zero, List.getElem?_cons_succ]
        go_simp
        rw [or_put z x d (v.testBit k) Hd.out hx8]
        refine hK.out _ _ (fun h => absurd rfl h) (fun _ => ?_)
        clear hK K
        try simp only [Act.put, List.setIfInBounds_toArray, List.set_cons_zero, List.set_cons_succ]
        refine wpHz_done (by kernel_rfl) ?_ _
        have hval : (bs2.map byteV).set y (.int .u8 (orBit z x (v.testBit k)).toNat) = (bs2.set y (orBit z x (v.testBit k))).map byteV := by
          rw [List.map_set]; rfl
        have hS8 := (Sat.sl_set hS7.swap y (by simpa using hyl) (.int .u8 (orBit z x (v.testBit k)).toNat)).drew
        rw [hval] at hS8
        obtain ⟨p0, p1, q0, q1⟩ := two_cells hS8.swap
        generalize (wr.setCell ⟨b2, o2 + y, none⟩ (.int .u8 (orBit z x (v.testBit k)).toNat)).drew = W9 at hS8 p0 p1 q0 q1 ⊢
        have hS9 := Sat.setCell (i := 1) hS8.swap (.int .i64 ((m : Int) + 1))
        have hbits9 := put_bit bs2 (l ++ low v k) (8 * bs2.length - m - 1) (v.testBit k) (by rw [Hbits2.out]; congr 2; rw [Hlen2.out]; omega) (by rw [← Hm.out, Hlen2.out]; omega)
        have hidx : ∀ (i : Nat) (hi : i < bs2.length), i = y → bs2[i] = z := by
          intro i hi e; subst e; exact Hz.out.symm
        have HW9 := Lib.hid hS9
        have Hbits9 := Lib.hid hbits9
        have Hidx := Lib.hid hidx
        clear hS7 hS8 hcy hfy e0 e1 hbit hval hbits9 hidx hS9
        go_wp2
        go_roundw
        case rel =>
          refine ⟨k + 1, q / 2, by omega, Hq2.out, by omega, vi (by omega), by go_num, ?_⟩
          refine Hfin.out _ (.slice (some ⟨b2, o2, none⟩) bs2.length cap2) (bs2.set y (orBit z x (v.testBit k))) (by rw [List.length_set, Hlen2.out]; omega) ?_ ?_
          · have h1 := Hbits9.out
            rw [Hidx.out _ _ (by rw [← Hm.out, Hy.out])] at h1
            rw [← Hm.out, ← Hx.out, ← Hy.out] at h1
            rw [h1, List.length_set, low_succ, Nat.sub_sub]; simp only [List.append_assoc]
          · rw [List.length_set]
            exact HW9.out
        case measure => simp [intOf]; omega
    · obtain rfl : k = n := by omega
      have hd : decide (k < k) = false := by simp
      go_wp2
      go_end0
      exact ⟨rfl, hS1⟩

set_option maxRecDepth 100000 in
set_option maxHeartbeats 400000 in
/-- The bytes. -/
theorem out_wrt {w : World} {r : Nat} {l : List Bool} {Rs : List Res} (hS : Sat w (wrt r l :: Rs)) (hl : l.length ≤ 1099511627776) :
    Calls Try.prog 32 #[.pointer (some ⟨r, 0, none⟩)] w fun e w' => ∃ (v : Value) (bs : List UInt8), e = .returned v ∧ bs.length = (l.length + 7) / 8 ∧ bitsOf bs = l ++ List.replicate (8 * bs.length - l.length) false ∧ Sat w' (sl 5 1 bs.length v (bs.map byteV) :: wrt r l :: Rs) := by
  obtain ⟨v0, bs, h, h1, h2⟩ := wrt_open hS
  have hA := h.alloc_drop (.cells #[] 5)
  obtain ⟨c0, c1, -, -⟩ := two_cells hA
  obtain ⟨F, ao, cap, rfl, -, -, -, -⟩ := h.at_ 1 _ rfl
  have hb : bs.length ≤ 137438953480 := by omega
  have hsrc := SlR.src (P := Try.prog) (hA.front 1 _ rfl).sl_read Try.underlying22 (byteV_one bs)
  have Hsrc := Lib.hid hsrc
  have H1 := Lib.hid h1
  have H2 := Lib.hid h2
  have hn := hA.sl_nil 5 1 (some ⟨w.heap.size, 0, none⟩)
  obtain ⟨i0, hi, hz0, hz1, hz2⟩ := info_parts Try.infoU8
  clear hsrc h1 h2
  go_enter Try.func32, Try.ntmps32
  go_wp2_with (at_builtin; refine wpList_append_sat _ rfl _ _ 22 22 rfl 5 i0 (.int .u8 0) 1 1 Try.underlying22 hi hz0 hz1 hz2 rfl (by decide) 0 _ _ _ rfl hn bs.length _ _ rfl Hsrc.out ?_ ?_ ?_)
  · unfold maxLen; omega
  · omega
  · intro v' w' hS'
    go_wp2
    go_ret
    refine ⟨v', bs, rfl, H1.out, H2.out, ?_⟩
    have h3 := Sat.perm (As := [_, _, _]) hS' [1, 2, 0] [_, _, _] rfl (by simp)
    exact (wrt_shut (v := .slice ao bs.length cap) (bs := bs) h3 H1.out H2.out).swap

end Go.Proofs.Ytdpocnkeokplpaa

namespace Go.Proofs.Ytdpocnkeokplpaa
open Go.RowKit Go.Hal
set_option linter.unusedVariables false
set_option linter.unusedSimpArgs false

theorem next_ok {w : World} {r c : Nat} {l : List Bool} {L : List Nat} {Rs : List Res} (hS : Sat w (rd r l :: code c L :: Rs)) (hf : Fits L) :
    Calls Try.prog 89 #[.pointer (some ⟨c, 0, none⟩), .pointer (some ⟨r, 0, none⟩)] w fun e w' => e = .returned (.tuple #[.int .i64 ((decL L l).1 : Nat), .int .i64 ((decL L l).2.1 : Nat)]) ∧ Sat w' (rd r (l.drop (decL L l).2.2) :: code c L :: Rs) := by
  have h := next_code hS (fun k v hh => by
      obtain ⟨t, -, -, rfl⟩ := has_D1 _ _ _ _ hh
      exact ⟨_, rfl⟩) (fun k v hh => by
      rcases has_D2 L (ord L 15) k with ⟨h1, -⟩ | ⟨h1, -⟩
      · rw [h1] at hh; cases hh; rfl
      · rw [h1] at hh; cases hh) (fun n v x hh => by
      obtain ⟨t, ht, hw, -⟩ := has_D1 _ _ _ _ hh
      obtain ⟨m, -, h2, h3⟩ := (mem_ord _ _ _).1 ht
      rw [wd_at h3] at hw
      simp only [Prod.mk.injEq] at hw
      omega)
  rw [nextFrom_dec hf l 16 0 (by omega) (by omega) (fun _ _ _ => by omega)] at h
  generalize decL L l = x at h ⊢
  refine h.mono fun e w' hp => ?_
  unfold NextPost at hp
  exact hp

theorem dec_word {L : List Nat} (hf : Fits L) {s : Nat} (hs : s ∈ ord L 15) (rest : List Bool) : decL L (wbits L s ++ rest) = (s, 0, (wd L s).1) := by
  have hh : hits L (wbits L s ++ rest) s := by
    unfold hits
    refine ⟨by rw [List.length_append, wbits_length]; omega, ?_⟩
    rw [List.take_append_of_le_length (by rw [wbits_length]; exact Nat.le_refl _), List.take_of_length_le (by rw [wbits_length]; exact Nat.le_refl _), num_wbits]
  unfold decL
  cases hfd : (ord L 15).find? (fun t => decide (hits L (wbits L s ++ rest) t)) with
  | none => rw [List.find?_eq_none] at hfd; exact absurd hh (by simpa using hfd s hs)
  | some t =>
    have h1 := List.mem_of_find?_eq_some hfd
    have h2 := List.find?_some hfd
    rw [hits_one hf h1 hs (by simpa using h2) hh]
theorem low_wbits (L : List Nat) (s : Nat) : low (wd L s).2 (wd L s).1 = wbits L s := by
  refine num_inj _ _ (by rw [low_length, wbits_length]) ?_
  rw [num_low, num_wbits, Nat.mod_eq_of_lt (wd_lt s)]

/-- The symbols that have words. -/
def goods (L : List Nat) (xs : List Nat) : List Nat := xs.filter fun s => decide (0 < (wordOf L (s : Nat)).1)
theorem goods_snoc (L : List Nat) (xs : List Nat) (s : Nat) : goods L (xs ++ [s]) = goods L xs ++ (if 0 < (wordOf L (s : Nat)).1 then [s] else []) := by
  unfold goods
  rw [List.filter_append]
  by_cases h : 0 < (wordOf L (s : Nat)).1 <;> simp [h]
def wcat (L : List Nat) (xs : List Nat) : List Bool := xs.flatMap (wbits L)
theorem wcat_snoc (L : List Nat) (xs : List Nat) (s : Nat) : wcat L (xs ++ [s]) = wcat L xs ++ wbits L s := by simp [wcat]
theorem good_ord {L : List Nat} (hx : ∀ x ∈ L, x ≤ 15) {s : Nat} (h : 0 < (wordOf L (s : Nat)).1) : s ∈ ord L 15 ∧ wordOf L (s : Nat) = wd L s := by
  rcases Nat.lt_or_ge s L.length with hs | hs
  · rw [wordOf_at L hx s hs] at h ⊢
    have ht : L[s]? = some L[s] := List.getElem?_eq_getElem hs
    rw [wd_at ht] at h
    exact ⟨(mem_ord _ _ _).2 ⟨L[s], h, hx _ (List.getElem_mem _), ht⟩, rfl⟩
  · rw [wordOf_out L _ (.inr (by omega))] at h
    exact absurd h (by simp)

theorem wl15 {L : List Nat} (hf : Fits L) {s : Nat} (h : s ∈ ord L 15) : (wd L s).1 ≤ 15 := by
  obtain ⟨n, -, h2, h3⟩ := (mem_ord _ _ _).1 h
  rw [wd_at h3]; exact h2

end Go.Proofs.Ytdpocnkeokplpaa

namespace Go.Proofs.Ytdpocnkeokplpaa
open Go.RowKit Go.Hal
set_option linter.unusedVariables false
set_option linter.unusedSimpArgs false

/-- a is the beginning of b. -/
def preB (a b : List Bool) : Bool := decide (b.take a.length = a)
/-- The bits of a slice that is read. -/
theorem bits_cell {w : World} {v : Value} {l : List Bool} (h : IntsR w v (bitsI l)) : ∃ ao cap, v = .slice ao l.length cap ∧ l.length ≤ cap ∧ cap ≤ 9223372036854775807 ∧
    ∀ k (hk : k < l.length), ∃ b o, ao = some ⟨b, o, none⟩ ∧ w.cell? ⟨b, o + k, none⟩ = some (.int .i64 (l[k].toNat : Nat)) := by
  obtain ⟨ao, cap, rfl, h1, h2, hc⟩ := h.cell
  have hl : (bitsI l).length = l.length := by simp [bitsI]
  refine ⟨ao, cap, by rw [hl], by omega, h2, fun k hk => ?_⟩
  obtain ⟨b, o, e, -, hb⟩ := hc k (by omega)
  exact ⟨b, o, e, by rw [hb]; simp [bitsI, bitI]⟩

set_option maxRecDepth 100000 in
set_option maxHeartbeats 1000000 in
theorem begins_any (va vb : Value) (a b : List Bool) (w : World) (ha : IntsR w va (bitsI a)) (hb : IntsR w vb (bitsI b)) :
    Calls Try.prog 111 #[va, vb] w fun e w' => e = .returned (.bool (preB a b)) ∧ ∃ n, w' = w.drewN n := by
  obtain ⟨ao, cap, rfl, a1, a2, hca⟩ := bits_cell ha
  obtain ⟨bo, cbp, rfl, b1, b2, hcb⟩ := bits_cell hb
  have Ha := Lib.hid hca
  have Hb := Lib.hid hcb
  clear ha hb hca hcb
  by_cases hl : b.length < a.length
  · have he : preB a b = false := by
      unfold preB
      refine decide_eq_false fun e => ?_
      have := congrArg List.length e
      rw [List.length_take] at this
      omega
    have hd : decide (b.length < a.length) = true := decide_eq_true hl
    have He := Lib.hid he
    clear he
    go_enter Try.func111, Try.ntmps111
    go_wp2
    go_ret
    exact ⟨ret_bool He.out.symm, 0, rfl⟩
  · have hd : decide (b.length < a.length) = false := decide_eq_false hl
    go_enter Try.func111, Try.ntmps111
    go_wp2
    go_loopw [13] (fun i wr => ∃ k n : Nat, k ≤ a.length ∧ i = .int .i64 k ∧ Hid (b.take k = a.take k) ∧ wr = w.drewN n) (fun i _ => a.length - (intOf i).toNat)
    case atStart => exact ⟨0, 0, by omega, rfl, by unfold Hid; simp, rfl⟩
    case round =>
      obtain ⟨k, n, hk, rfl, H, rfl⟩ := hrel
      by_cases hlt : k < a.length
      · have hd2 : decide (k < a.length) = true := decide_eq_true hlt
        have hltb : k < b.length := by omega
        obtain ⟨ba, oa, rfl, hc1⟩ := Ha.out k hlt
        obtain ⟨bb, ob, rfl, hc2⟩ := Hb.out k hltb
        obtain ⟨x, Hx⟩ : ∃ x, Hid (x = a[k]) := ⟨_, Lib.hid rfl⟩
        obtain ⟨y, Hy⟩ : ∃ y, Hid (y = b[k]) := ⟨_, Lib.hid rfl⟩
        rw [← Hx.out] at hc1
        rw [← Hy.out] at hc2
        have hk1 : (k : Int) < (a.length : Int) := by omega
        have hk2 : (k : Int) < (b.length : Int) := by omega
        by_cases hxy : x = y
        · have hne : (((x.toNat : Nat) : Int) != ((y.toNat : Nat) : Int)) = false := by rw [hxy]; simp
          have H2 : Hid (b.take (k + 1) = a.take (k + 1)) := by
            unfold Hid
            rw [List.take_succ_eq_append_getElem hlt, List.take_succ_eq_append_getElem hltb, H.out, ← Hx.out, ← Hy.out, hxy]
          clear hxy
          go_wp2
          go_quiet (fail)
          go_wp2
          go_roundw
          case rel => exact ⟨k + 1, _, by omega, by go_num, H2, rfl⟩
          case measure => simp [intOf]; omega
        · have hne : (((x.toNat : Nat) : Int) != ((y.toNat : Nat) : Int)) = true := by cases x <;> cases y <;> first | rfl | exact absurd rfl hxy
          have he : preB a b = false := by
            unfold preB
            refine decide_eq_false fun e => ?_
            have h1 := congrArg (fun l => l[k]?) e
            rw [List.getElem?_take, if_pos hlt, List.getElem?_eq_getElem hlt, List.getElem?_eq_getElem hltb, Option.some.injEq, ← Hx.out, ← Hy.out] at h1
            exact hxy h1.symm
          have He := Lib.hid he
          clear hxy he
          go_wp2
          go_quiet (fail)
          go_wp2
          go_ret
          exact ⟨ret_bool He.out.symm, _, World.drewN_drewN ..⟩
      · obtain rfl : k = a.length := by omega
        have hd2 : decide (a.length < a.length) = false := by simp
        go_wp2
        go_ret
        refine ⟨ret_bool ?_, n, rfl⟩
        unfold preB
        rw [H.out, List.take_length]
        simp

theorem preB_hits {L : List Nat} {t : Nat} {l : List Bool} : preB (wbits L t) l = decide (hits L l t) := by
  unfold preB hits
  congr 1
  rw [wbits_length, eq_iff_iff]
  constructor
  · intro e
    have h1 := congrArg List.length e
    rw [List.length_take, wbits_length] at h1
    refine ⟨by omega, ?_⟩
    rw [e, num_wbits]
  · rintro ⟨h1, h2⟩
    refine num_inj _ _ (by rw [List.length_take, wbits_length]; omega) ?_
    rw [h2, num_wbits]
theorem preB_may {L : List Nat} {t : Nat} {l : List Bool} (h : ¬ hits L l t) : preB l (wbits L t) = decide (mayHit L l t) := by
  unfold preB mayHit
  congr 1
  rw [eq_iff_iff]
  constructor
  · intro e
    have h1 := congrArg List.length e
    rw [List.length_take, wbits_length] at h1
    have h2 := congrArg num e
    rw [num_take, num_wbits] at h2
    refine ⟨?_, h2⟩
    rcases Nat.lt_or_ge l.length (wd L t).1 with h3 | h3
    · exact h3
    · exfalso
      refine h ⟨by omega, ?_⟩
      have h4 : (wd L t).1 = l.length := by omega
      rw [h4, List.take_length, ← h2, Nat.mod_eq_of_lt]
      rw [← h4]; exact wd_lt t
  · rintro ⟨h1, h2⟩
    refine num_inj _ _ (by rw [List.length_take, wbits_length]; omega) ?_
    rw [num_take, num_wbits, h2]


theorem find_at {α : Type} {f : α → Bool} : ∀ {l : List α} {k : Nat} {x : α}, l[k]? = some x → (l.take k).find? f = none → (f x = true → l.find? f = some x) ∧ (f x = false → (l.take (k + 1)).find? f = none) := by
  intro l
  induction l with
  | nil => intro k x h; simp at h
  | cons y r ih =>
    intro k x h hn
    cases k with
    | zero =>
      simp at h; subst h
      refine ⟨fun hf => by simp [hf], fun hf => by simp [hf]⟩
    | succ k =>
      simp only [List.take_succ_cons, List.find?_cons] at hn
      cases hy : f y with
      | true => rw [hy] at hn; simp at hn
      | false =>
        rw [hy] at hn
        obtain ⟨h1, h2⟩ := ih (k := k) (x := x) (by simpa using h) hn
        refine ⟨fun hf => by simp only [List.find?_cons, hy]; exact h1 hf, fun hf => by simp only [List.take_succ_cons, List.find?_cons, hy]; exact h2 hf⟩

theorem dec_hit {L : List Nat} {l : List Bool} {t : Nat} (h : (ord L 15).find? (fun t => decide (hits L l t)) = some t) : decL L l = (t, 0, (wd L t).1) := by
  unfold decL; rw [h]
theorem dec_short {L : List Nat} {l : List Bool} (h : (ord L 15).find? (fun t => decide (hits L l t)) = none) (h2 : l = [] ∨ ∃ t ∈ ord L 15, mayHit L l t) : decL L l = (0, 2, 0) := by
  unfold decL; rw [h]; simp only; rw [if_pos h2]
theorem dec_none {L : List Nat} {l : List Bool} (h : (ord L 15).find? (fun t => decide (hits L l t)) = none) (h2 : ¬ (l = [] ∨ ∃ t ∈ ord L 15, mayHit L l t)) : decL L l = (0, 6, 0) := by
  unfold decL; rw [h]; simp only; rw [if_neg h2]
theorem ret3 {a a' b b' c c' : Int} (h1 : a = a') (h2 : b = b') (h3 : c = c') : Ending.returned (.tuple #[.int .i64 a, .int .i64 b, .int .i64 c]) = .returned (.tuple #[.int .i64 a', .int .i64 b', .int .i64 c']) := by rw [h1, h2, h3]

set_option maxRecDepth 100000 in
set_option maxHeartbeats 2000000 in
theorem refNext_any {w : World} {Rs : List Res} {out : Value} {L : List Nat} {T : List (Nat × Value)} {P : List Ent} (hS : Sat w (sl 156 2 T.length out (wordC T) :: pool P :: Rs)) (hT : T.map (·.1) = ord L 15) (hTP : ∀ x ∈ T, entW L x ∈ P)
    (hn : T.length ≤ 288) (u : Value) (l : List Bool) (hu : ∀ w', Sat w' Rs → IntsR w' u (bitsI l)) :
    Calls Try.prog 103 #[out, u] w fun e w' => e = .returned (.tuple #[.int .i64 ((decL L l).1 : Nat), .int .i64 ((decL L l).2.2 : Nat), .int .i64 ((decL L l).2.1 : Nat)]) ∧ Sat w' (sl 156 2 T.length out (wordC T) :: pool P :: Rs) := by
  obtain ⟨aou, capu, rfl, u1, u2, -⟩ := bits_cell (hu w hS.tail.tail)
  obtain ⟨F5, ao5, cap5, rfl, -, k5, -, -⟩ := hS.first
  unfold maxLen at k5
  have HT := Lib.hid hT
  have HTP := Lib.hid hTP
  have Hu := Lib.hid hu
  clear hT hTP hu
  go_enter Try.func103, Try.ntmps103
  go_wp2
  go_loopw [13] (fun i wr => ∃ k : Nat, k ≤ T.length ∧ i = .int .i64 k ∧ Hid (((ord L 15).take k).find? (fun t => decide (hits L l t)) = none) ∧ Sat wr (sl 156 2 T.length (.slice ao5 T.length cap5) (wordC T) :: pool P :: Rs)) (fun i _ => T.length - (intOf i).toNat)
  case atStart => exact ⟨0, by omega, rfl, by unfold Hid; simp, hS⟩
  case round =>
    obtain ⟨k, hk, rfl, H, hS6⟩ := hrel
    by_cases hlt : k < T.length
    · have hd : decide (k < T.length) = true := decide_eq_true hlt
      obtain ⟨⟨t, bv⟩, hx⟩ : ∃ x, T[k]? = some x := ⟨_, List.getElem?_eq_getElem hlt⟩
      have htk : (ord L 15)[k]? = some t := by rw [← HT.out, List.getElem?_map, hx]; rfl
      have htm : t ∈ ord L 15 := List.mem_of_getElem? htk
      have hread := fun (w' : World) (h : Sat w' [pool P]) => h.pool_read (HTP.out _ (List.mem_of_getElem? hx))
      obtain ⟨aob, capb, hbv, -, -, -, -⟩ := hread wr (Sat.pick hS6 [1] [_] rfl (by simp))
      unfold entW at hbv
      simp only at hbv
      subst hbv
      obtain ⟨n15, hwd1⟩ : ∃ n, (wd L t).1 = n := ⟨_, rfl⟩
      have hbl : (wbits L t).length = n15 := by rw [wbits_length, hwd1]
      obtain ⟨b5, o5, cap', heq, -, -, -, hc5, -⟩ := hS6.sl_cells (by omega)
      simp only [Value.slice.injEq, true_and] at heq
      obtain ⟨rfl, rfl⟩ := heq
      obtain ⟨q1, q2⟩ := wordC_get hx
      have e1 := hc5 _ _ q1
      have e2 := hc5 _ _ q2
      rw [← Nat.add_assoc] at e2
      simp only at e1 e2
      rw [hbl] at e2
      have hA := hS6.alloc (.cells #[.int .i64 (t : Nat), .slice aob n15 capb] 156)
      have hrd : ∀ w', Sat w' (blk wr.heap.size (.cells #[.int .i64 (t : Nat), .slice aob n15 capb] 156) :: sl 156 2 T.length (.slice (some ⟨b5, o5, none⟩) T.length cap5) (wordC T) :: pool P :: Rs) → IntsR w' (.slice aob n15 capb) (bitsI (wbits L t)) := by
        intro w' h
        have hr := hread _ (Sat.pick h [2] [_] rfl (by simp))
        unfold entW at hr
        simp only [hbl] at hr
        have hbil : (bitsI (wbits L t)).length = n15 := by simp [bitsI, hbl]
        unfold IntsR; rw [hbil]; exact hr
      have Hrd := Lib.hid hrd
      clear hx hread q1 q2 hc5 hbl hrd
      by_cases hh : hits L l t
      · have hp : preB (wbits L t) l = true := by rw [preB_hits]; exact decide_eq_true hh
        have hdec := dec_hit ((find_at htk H.out).1 (decide_eq_true hh))
        rw [hwd1] at hdec
        have Hdec := Lib.hid hdec
        clear hdec hh htk hwd1
        go_wp2_with (go_at_call 111; refine (begins_any _ _ (wbits L t) l _ (Hrd.out _ hA) (Hu.out _ hA.tail.tail.tail)).mono ?_; rw [hp]; rintro e w7 ⟨rfl, n7, rfl⟩)
        clear hp
        have hS8 := hA.drewN n7
        have hbk := (hS8.at_ 0 _ rfl).choose_spec.2
        have p0 : (World.drewN (wr.alloc (.cells #[.int .i64 (t : Nat), .slice aob n15 capb] 156)) n7).cell? ⟨wr.heap.size, 0, none⟩ = some (.int .i64 (t : Nat)) := by rw [cell_of_row _ _ 0 _ _ _ hbk]; rfl
        have p1 : (World.drewN (wr.alloc (.cells #[.int .i64 (t : Nat), .slice aob n15 capb] 156)) n7).cell? ⟨wr.heap.size, 1, none⟩ = some (.slice aob n15 capb) := by rw [cell_of_row _ _ 1 _ _ _ hbk]; rfl
        clear hbk
        go_quiet (fail)
        go_wp2
        go_ret3
        refine ⟨?_, Sat.drewN hS8.tail _⟩
        rw [Hdec.out]
        rfl
      · have hp : preB (wbits L t) l = false := by rw [preB_hits]; exact decide_eq_false hh
        have hfn := (find_at htk H.out).2 (decide_eq_false hh)
        have Hfn := Lib.hid hfn
        clear hfn hh htk hwd1
        go_wp2_with (go_at_call 111; refine (begins_any _ _ (wbits L t) l _ (Hrd.out _ hA) (Hu.out _ hA.tail.tail.tail)).mono ?_; rw [hp]; rintro e w7 ⟨rfl, n7, rfl⟩)
        clear hp
        have hS8 := hA.drewN n7
        go_roundw
        case rel => exact ⟨k + 1, by omega, by go_num, Hfn, hS8.tail⟩
        case measure => simp [intOf]; omega
    · obtain rfl : k = T.length := by omega
      have hd : decide (T.length < T.length) = false := by simp
      have hfind : (ord L 15).find? (fun t => decide (hits L l t)) = none := by
        have := H.out
        rwa [List.take_of_length_le (by rw [← HT.out, List.length_map]; exact Nat.le_refl _)] at this
      have hno : ∀ t ∈ ord L 15, ¬ hits L l t := by
        intro t ht
        rw [List.find?_eq_none] at hfind
        simpa using hfind t ht
      have Hfind := Lib.hid hfind
      have Hno := Lib.hid hno
      clear hfind hno H
      by_cases hl0 : l.length = 0
      · have hdec := dec_short Hfind.out (.inl (List.eq_nil_of_length_eq_zero hl0))
        have Hdec := Lib.hid hdec
        have hz : (((l.length : Nat) : Int) == 0) = true := by rw [hl0]; rfl
        clear hdec hl0
        go_wp2
        go_ret3
        exact ⟨by rw [Hdec.out]; rfl, hS6⟩
      · have hz : (((l.length : Nat) : Int) == 0) = false := beq_eq_false_iff_ne.2 (by omega)
        have Hl0 := Lib.hid hl0
        clear hl0
        go_wp2
        go_loopw [32] (fun i wr => ∃ k : Nat, k ≤ T.length ∧ i = .int .i64 k ∧ Hid (((ord L 15).take k).find? (fun t => decide (mayHit L l t)) = none) ∧ Sat wr (sl 156 2 T.length (.slice ao5 T.length cap5) (wordC T) :: pool P :: Rs)) (fun i _ => T.length - (intOf i).toNat)
        case atStart => exact ⟨0, by omega, rfl, by unfold Hid; simp, hS6⟩
        case round =>
          obtain ⟨k, hk, rfl, H, hS9⟩ := hrel
          by_cases hlt : k < T.length
          · have hd : decide (k < T.length) = true := decide_eq_true hlt
            obtain ⟨⟨t, bv⟩, hx⟩ : ∃ x, T[k]? = some x := ⟨_, List.getElem?_eq_getElem hlt⟩
            have htk : (ord L 15)[k]? = some t := by rw [← HT.out, List.getElem?_map, hx]; rfl
            have htm : t ∈ ord L 15 := List.mem_of_getElem? htk
            have hread := fun (w' : World) (h : Sat w' [pool P]) => h.pool_read (HTP.out _ (List.mem_of_getElem? hx))
            obtain ⟨aob, capb, hbv, -, -, -, -⟩ := hread wr (Sat.pick hS9 [1] [_] rfl (by simp))
            unfold entW at hbv
            simp only at hbv
            subst hbv
            obtain ⟨n15, hwd1⟩ : ∃ n, (wd L t).1 = n := ⟨_, rfl⟩
            have hbl : (wbits L t).length = n15 := by rw [wbits_length, hwd1]
            obtain ⟨b5, o5, cap', heq, -, -, -, hc5, -⟩ := hS9.sl_cells (by omega)
            simp only [Value.slice.injEq, true_and] at heq
            obtain ⟨rfl, rfl⟩ := heq
            obtain ⟨q1, q2⟩ := wordC_get hx
            have e1 := hc5 _ _ q1
            have e2 := hc5 _ _ q2
            rw [← Nat.add_assoc] at e2
            simp only at e1 e2
            rw [hbl] at e2
            have hA := hS9.alloc (.cells #[.int .i64 (t : Nat), .slice aob n15 capb] 156)
            have hrd : ∀ w', Sat w' (blk wr.heap.size (.cells #[.int .i64 (t : Nat), .slice aob n15 capb] 156) :: sl 156 2 T.length (.slice (some ⟨b5, o5, none⟩) T.length cap5) (wordC T) :: pool P :: Rs) → IntsR w' (.slice aob n15 capb) (bitsI (wbits L t)) := by
              intro w' h
              have hr := hread _ (Sat.pick h [2] [_] rfl (by simp))
              unfold entW at hr
              simp only [hbl] at hr
              have hbil : (bitsI (wbits L t)).length = n15 := by simp [bitsI, hbl]
              unfold IntsR; rw [hbil]; exact hr
            have Hrd := Lib.hid hrd
            clear hx hread q1 q2 hc5 hbl hrd
            by_cases hh : mayHit L l t
            · have hp : preB l (wbits L t) = true := by rw [preB_may (Hno.out t htm)]; exact decide_eq_true hh
              have hdec := dec_short Hfind.out (.inr ⟨t, htm, hh⟩)
              have Hdec := Lib.hid hdec
              clear hdec hh htk htm hwd1
              go_wp2_with (go_at_call 111; refine (begins_any _ _ l (wbits L t) _ (Hu.out _ hA.tail.tail.tail) (Hrd.out _ hA)).mono ?_; rw [hp]; rintro e w7 ⟨rfl, n7, rfl⟩)
              clear hp
              have hS8 := hA.drewN n7
              go_ret3
              exact ⟨by rw [Hdec.out]; rfl, hS8.tail⟩
            · have hp : preB l (wbits L t) = false := by rw [preB_may (Hno.out t htm)]; exact decide_eq_false hh
              have hfn := (find_at htk H.out).2 (decide_eq_false hh)
              have Hfn := Lib.hid hfn
              clear hfn hh htk htm hwd1
              go_wp2_with (go_at_call 111; refine (begins_any _ _ l (wbits L t) _ (Hu.out _ hA.tail.tail.tail) (Hrd.out _ hA)).mono ?_; rw [hp]; rintro e w7 ⟨rfl, n7, rfl⟩)
              clear hp
              have hS8 := hA.drewN n7
              go_roundw
              case rel => exact ⟨k + 1, by omega, by go_num, Hfn, hS8.tail⟩
              case measure => simp [intOf]; omega
          · obtain rfl : k = T.length := by omega
            have hd : decide (T.length < T.length) = false := by simp
            have hmay : ¬ (l = [] ∨ ∃ t ∈ ord L 15, mayHit L l t) := by
              have := H.out
              rw [List.take_of_length_le (by rw [← HT.out, List.length_map]; exact Nat.le_refl _), List.find?_eq_none] at this
              rintro (rfl | ⟨t, ht, h⟩)
              · exact Hl0.out rfl
              · exact absurd h (by simpa using this t ht)
            have Hdec := Lib.hid (dec_none Hfind.out hmay)
            clear hmay
            go_wp2
            go_ret3
            exact ⟨by rw [Hdec.out]; rfl, hS9⟩

theorem byteBits_take (y : UInt8) (j : Nat) (hj : j < 8) : (byteBits y).take (j + 1) = (byteBits y).take j ++ [y.toNat.testBit j] := by
  rw [List.take_succ_eq_append_getElem (by simpa using hj)]
  simp [byteBits]
theorem bitsI_snoc (l : List Bool) (m : Nat) (b : Bool) (h : m % 2 = b.toNat) : (bitsI (l ++ [b])).map intV = (bitsI l).map intV ++ [.int .i64 ((m : Int) % 2)] := by
  have : ((m : Int) % 2) = ((m % 2 : Nat) : Int) := by omega
  rw [this]
  simp [bitsI, bitI, intV, h]

set_option maxHeartbeats 1000000 in
theorem refBits_any {w : World} {Rs : List Res} (hS : Sat w Rs) (v : Value) (ys : List UInt8) (hv : ∀ w', Sat w' Rs → SlR w' 5 1 ys.length v (ys.map byteV)) (hb : ys.length ≤ 4194304) :
    Calls Try.prog 40 #[v] w fun e w' => ∃ out, e = .returned out ∧ Sat w' (sl 3 1 (bitsOf ys).length out ((bitsI (bitsOf ys)).map intV) :: Rs) := by
  obtain ⟨ao, cap, rfl, c1, c2, -, -⟩ := hv w hS
  unfold maxLen at c2
  have hcell : ∀ w', Sat w' Rs → ∀ k (hk : k < ys.length), ∃ b o, ao = some ⟨b, o, none⟩ ∧ w'.cell? ⟨b, o + k, none⟩ = some (.int .u8 (ys[k].toNat : Nat)) := by
    intro w' h k hk
    obtain ⟨ao', cap', heq, -, -, -, hc⟩ := hv w' h
    simp only [Value.slice.injEq, true_and] at heq
    obtain ⟨rfl, rfl⟩ := heq
    obtain ⟨b, o, rfl, -, hc⟩ := hc (by omega)
    exact ⟨b, o, rfl, hc k _ (by simp [hk, byteV])⟩
  have Hc := Lib.hid hcell
  clear hv hcell
  obtain ⟨i1, hi1, hy0, hy1, hy2⟩ := info_parts Try.infoIntW
  go_enter Try.func40, Try.ntmps40
  go_wp2
  go_loopw [3, 4] (fun out i wr => ∃ k : Nat, k ≤ ys.length ∧ i = .int .i64 k ∧ Sat wr (sl 3 1 (bitsOf (ys.take k)).length out ((bitsI (bitsOf (ys.take k))).map intV) :: Rs)) (fun _ i _ => ys.length - (intOf i).toNat)
  case atStart => exact ⟨0, by omega, rfl, by simpa [bitsI] using hS.sl_nil _ _ _⟩
  case round =>
    obtain ⟨k, hk, rfl, hS1⟩ := hrel
    by_cases hlt : k < ys.length
    · have hd : decide (k < ys.length) = true := decide_eq_true hlt
      obtain ⟨b, o, rfl, hcs⟩ := Hc.out wr hS1.tail k hlt
      obtain ⟨y, Hy⟩ : ∃ y, Hid (y = ys[k]) := ⟨_, Lib.hid rfl⟩
      rw [← Hy.out] at hcs
      have hy8 : y.toNat < 256 := y.toNat_lt
      have hbl : (bitsOf (ys.take k)).length = 8 * k := by rw [bitsOf_length, List.length_take, Nat.min_eq_left hk]
      have Hbl := Lib.hid hbl
      clear hbl
      go_wp2
      go_loopw [3, 5, 6] (fun out n i wr => ∃ j m : Nat, j ≤ 8 ∧ m < 256 ∧ Hid (m = y.toNat / 2 ^ j) ∧ n = .int .i64 m ∧ i = .int .i64 j ∧ Sat wr (sl 3 1 (bitsOf (ys.take k) ++ (byteBits y).take j).length out ((bitsI (bitsOf (ys.take k) ++ (byteBits y).take j)).map intV) :: Rs)) (fun _ _ i _ => 8 - (intOf i).toNat)
      case atStart => exact ⟨0, y.toNat, by omega, hy8, by unfold Hid; simp, rfl, rfl, by simpa using hS1⟩
      case round =>
        obtain ⟨j, m, hj, hm, Hm, rfl, rfl, hS2⟩ := hrel
        by_cases hlt2 : j < 8
        · obtain ⟨F8, ao8, cap8, rfl, -, -, -, -⟩ := hS2.first
          have hd2 : decide ((j : Int) < 8) = true := decide_eq_true (by omega)
          have hA := hS2.sl_made (e := 3) (size := 1) (n := 1) (cap := 1) (cur := #[.int .i64 (m % 2 : Nat)]) (xs := [.int .i64 (m % 2 : Nat)]) (by omega) (by decide) rfl (by simp) (fun j u hu => by simpa using hu)
          have hsrc := SlR.src (P := Try.prog) hA.sl_read Try.underlying28 (by simp [Value.oneCell'])
          have hA2 := Sat.perm (As := [_, _]) hA [1] [_] rfl (by simp)
          have hbt : m % 2 = (y.toNat.testBit j).toNat := by
            rw [Hm.out, Nat.testBit_eq_decide_div_mod_eq]
            rcases Nat.mod_two_eq_zero_or_one (y.toNat / 2 ^ j) with h | h <;> simp [h]
          have Hbt := Lib.hid hbt
          have Hsrc := Lib.hid hsrc
          have Hlen : Hid ((bitsOf (ys.take k) ++ (byteBits y).take j).length = 8 * k + j) := by
            unfold Hid; rw [List.length_append, Hbl.out, List.length_take, byteBits_length, Nat.min_eq_left hj]
          clear hsrc hA hbt
          go_wp2_with (at_builtin; refine wpList_append_sat _ rfl _ _ 28 28 rfl 3 i1 (.int .i64 0) 1 8 Try.underlying28 hi1 hy0 hy1 hy2 rfl (by decide) _ _ _ _ rfl hA2 1 _ _ rfl Hsrc.out ?_ ?_ ?_)
          · rw [Hlen.out]; unfold maxLen; omega
          · rw [Hlen.out]; omega
          · intro v' w' hS7
            go_wp2
            go_roundw
            case rel =>
              refine ⟨j + 1, m / 2, by omega, by omega, ?_, by go_num, by go_num, ?_⟩
              · unfold Hid; rw [Hm.out, Nat.div_div_eq_div_mul, Nat.pow_succ]
              · rw [byteBits_take y j hlt2, ← List.append_assoc, List.length_append, Hlen.out, bitsI_snoc _ m _ Hbt.out]
                exact hS7
            case measure => simp [intOf]; omega
        · obtain rfl : j = 8 := by omega
          have h8 : (byteBits y).take 8 = byteBits y := List.take_of_length_le (by simp)
          have hbs : bitsOf (ys.take k) ++ (byteBits y).take 8 = bitsOf (ys.take (k + 1)) := by
            rw [List.take_succ_eq_append_getElem hlt, bitsOf_append, h8, ← Hy.out]
            simp [bitsOf]
          rw [hbs] at hS2
          clear hbs h8
          go_wp2
          go_roundw
          case rel => exact ⟨k + 1, by omega, by go_num, hS2⟩
          case measure => simp [intOf]; omega
    · obtain rfl : k = ys.length := by omega
      have hd : decide (ys.length < ys.length) = false := by simp
      rw [List.take_length] at hS1
      go_wp2
      go_ret
      exact ⟨_, rfl, hS1⟩

end Go.Proofs.Ytdpocnkeokplpaa

namespace Go.Proofs.Ytdpocnkeokplpaa
open Go.RowKit Go.Hal
set_option linter.unusedVariables false
set_option linter.unusedSimpArgs false

/-- What stays of a slice behind its first m elements. -/
theorem Sat.sl_drop {w : World} {Rs : List Res} {e : Nat} {b off cap : Nat} {xs : List Value} (hS : Sat w (sl e 1 xs.length (.slice (some ⟨b, off, none⟩) xs.length cap) xs :: Rs)) (m : Nat) (hm : m ≤ xs.length) :
    Sat w (sl e 1 (xs.drop m).length (.slice (if cap = m then some ⟨b, off, none⟩ else some ⟨b, off + m, none⟩) (xs.length - m) (cap - m)) (xs.drop m) :: Rs) := by
  refine hS.conv fun F h => ?_
  obtain ⟨ao, cap', heq, h1, h2, h3, h4⟩ := h
  simp only [Value.slice.injEq, true_and] at heq
  obtain ⟨rfl, rfl⟩ := heq
  rw [List.length_drop]
  refine ⟨_, _, rfl, by omega, by omega, by simp, fun hc => ?_⟩
  obtain ⟨b', off', cur, heq, r2, r3, r4, r5⟩ := h4 (by omega)
  simp only [Option.some.injEq, Addr.mk.injEq, and_true] at heq
  obtain ⟨rfl, rfl⟩ := heq
  refine ⟨b, off + m, cur, if_neg (by omega), r2, r3, by omega, fun j u hu => ?_⟩
  rw [List.getElem?_drop] at hu
  have := r5 _ u hu
  rw [← Nat.add_assoc] at this
  exact this

theorem bitsI_drop (l : List Bool) (n : Nat) : ((bitsI l).map intV).drop n = (bitsI (l.drop n)).map intV := by simp [bitsI, List.map_drop]
theorem bitsI_len (l : List Bool) : ((bitsI l).map intV).length = l.length := by simp [bitsI]

theorem bytes_row {w : World} {a : Option Addr} {len cap : Nat} {zs : List Int}
    (h : (a = none ∧ len = 0 ∧ cap = 0 ∧ zs = []) ∨ ∃ x, a = some x ∧ len ≤ cap ∧ cap ≤ maxLen ∧ zs.length = cap ∧ (∀ i, i < zs.length → w.cell? (x.add i) = some (.int .u8 (zs.getD i 0))) ∧ ∀ n ∈ zs, (Lit.int .u8 n).wf = true) :
    ∃ ys : List UInt8, ys.length = len ∧ ∀ w', Sat w' [env w] → SlR w' 5 1 ys.length (.slice a ys.length cap) (ys.map byteV) := by
  obtain ⟨ys, h1, h2, h3⟩ := nats_row 256 wf_u8 5 h
  refine ⟨ys.map UInt8.ofNat, by simpa using h1, fun w' hS => ?_⟩
  have h4 := h3 w' hS
  have he : (ys.map UInt8.ofNat).map byteV = ys.map fun y : Nat => Value.int .u8 y := by
    rw [List.map_map]
    refine List.map_congr_left fun y hy => ?_
    simp [byteV, UInt8.toNat_ofNat, Nat.mod_eq_of_lt (h2 y hy)]
  rw [he, List.length_map]
  exact h4

theorem decL_le {L : List Nat} (l : List Bool) : (decL L l).2.2 ≤ l.length ∧ ((decL L l).2.1 = 0 → 0 < (decL L l).2.2 ∨ ∃ t ∈ ord L 15, (wd L t).1 = 0) := by
  unfold decL
  cases hfd : (ord L 15).find? (fun t => decide (hits L l t)) with
  | none =>
    simp only
    split <;> simp
  | some t =>
    have h1 := List.mem_of_find?_eq_some hfd
    have h2 := List.find?_some hfd
    simp only [decide_eq_true_eq] at h2
    refine ⟨h2.1, fun _ => ?_⟩
    simp only
    rcases Nat.eq_zero_or_pos (wd L t).1 with h | h
    · exact .inr ⟨t, h1, h⟩
    · exact .inl h

theorem wd_pos {L : List Nat} {t : Nat} (h : t ∈ ord L 15) : 0 < (wd L t).1 := by
  obtain ⟨n, h1, -, h3⟩ := (mem_ord _ _ _).1 h
  rw [wd_at h3]; exact h1
theorem decL_good {L : List Nat} {l : List Bool} {s e n : Nat} (h : decL L l = (s, e, n)) : n ≤ l.length ∧ (e = 0 → 0 < n) ∧ (e ≠ 0 → n = 0) := by
  have h1 := decL_le (L := L) l
  rw [h] at h1
  refine ⟨h1.1, fun h2 => (h1.2 h2).elim id fun ⟨t, ht, h3⟩ => by have := wd_pos ht; omega, ?_⟩
  unfold decL at h
  split at h
  · cases h; exact fun h => absurd rfl h
  · split at h <;> cases h <;> exact fun _ => rfl

end Go.Proofs.Ytdpocnkeokplpaa

namespace Go.Proofs.Ytdpocnkeokplpaa
open Go.RowKit Go.Hal
set_option linter.unusedVariables false
set_option linter.unusedSimpArgs false

set_option maxHeartbeats 400000 in
theorem feed_big {w : World} {r : Nat} {Rs : List Res} (hS : Sat w (rd r [] :: Rs)) {v : Value} {ys : List UInt8} (hv : SlR w 5 1 ys.length v (ys.map byteV)) (hb : ys.length ≤ 140737488355328) :
    Calls Try.prog 47 #[.pointer (some ⟨r, 0, none⟩), v] w fun e w' => e = .returned (.tuple #[]) ∧ ∃ v', Sat w' (blk r (.cells #[v', .int .i64 (0 : Nat)] 126 (0, 0)) :: sl 5 1 ys.length v' (ys.map byteV) :: Rs) := by
  obtain ⟨v0, bs, off, h, h1, h2, hl, h3⟩ := rd_open hS
  have hlen : 0 = 8 * bs.length - off := by have := congrArg List.length hl; simpa using this
  have hb0 : bs.length = 0 := by omega
  obtain rfl : bs = [] := List.eq_nil_of_length_eq_zero hb0
  obtain rfl : off = 0 := by simpa using h2
  obtain ⟨c0, c1, f0, f1⟩ := rd_cells h
  have hsrc := hv.src (P := Try.prog) Try.underlying22 (byteV_one ys)
  clear hl hlen hb0
  obtain ⟨F, ao, cap, rfl, -, -, -, -⟩ := h.at_ 1 _ rfl
  obtain ⟨ao2, cap2, rfl, -, -, -, -⟩ := hv
  obtain ⟨i0, hi, hz0, hz1, hz2⟩ := info_parts Try.infoU8
  go_enter Try.func47, Try.ntmps47
  go_wp2_with (at_builtin; refine wpList_append_sat _ rfl _ _ 22 22 rfl 5 i0 (.int .u8 0) 1 1 Try.underlying22 hi hz0 hz1 hz2 rfl (by decide) ([] : List UInt8).length _ _ _ rfl h.swap ys.length _ _ rfl hsrc ?_ ?_ ?_)
  · simp; unfold maxLen; omega
  · simp; omega
  · intro v' w' hS'
    obtain ⟨d0, d1, e0, e1⟩ := rd_cells hS'.swap
    obtain ⟨F', ao', cap', rfl, -, -, -, -⟩ := hS'.at_ 0 _ rfl
    go_wp2
    go_end0
    have g := hS'.swap.setCell (i := 0) (.slice ao' (([] : List UInt8).length + ys.length) cap')
    refine ⟨rfl, .slice ao' (([] : List UInt8).length + ys.length) cap', ?_⟩
    simpa using g

set_option maxHeartbeats 400000 in
theorem have_big {w : World} {r n cap : Nat} {ao : Option Addr} {Rs : List Res} (hS : Sat w (blk r (.cells #[.slice ao n cap, .int .i64 (0 : Nat)] 126 (0, 0)) :: Rs)) (hb : n ≤ 140737488355328) :
    Calls Try.prog 50 #[.pointer (some ⟨r, 0, none⟩)] w fun e w' => e = .returned (.int .i64 (8 * n : Nat)) ∧ ∃ k, w' = w.drewN k := by
  obtain ⟨c0, c1, -, -⟩ := rd_cells hS
  clear hS
  go_enter Try.func50, Try.ntmps50
  go_wp2
  go_quiet (fail)
  go_wp2
  go_ret
  refine ⟨ret_int ?_, nq, rfl⟩
  simp

set_option maxHeartbeats 400000 in
theorem next_nilcode {w : World} {r n cap : Nat} {ao : Option Addr} {Rs : List Res} (hS : Sat w (blk r (.cells #[.slice ao n cap, .int .i64 (0 : Nat)] 126 (0, 0)) :: Rs)) (hb : n ≤ 140737488355328) :
    Calls Try.prog 89 #[.pointer none, .pointer (some ⟨r, 0, none⟩)] w fun e w' => e = .returned (.tuple #[.int .i64 0, .int .i64 (if n = 0 then 2 else 6 : Nat)]) ∧ Sat w' Rs := by
  have h0 := hS.alloc_drop (.cells #[.int .i64 0, .int .i64 0] 153)
  by_cases hn : n = 0
  · have hz : (((8 * n : Nat) : Int) == 0) = true := by simp [hn]
    have Hn := Lib.hid hn
    clear hn hS
    go_enter Try.func89, Try.ntmps89
    go_wp2
    refine wp_loop_rounds 1 ?_
    rw [rounds_succ]
    go_wp2_with (go_at_call 50; refine (have_big h0 hb).mono ?_; rintro e w2 ⟨rfl, k, rfl⟩)
    go_ret2
    exact ⟨rfl, (h0.drewN k).tail⟩
  · have hz : (((8 * n : Nat) : Int) == 0) = false := by simp; omega
    have Hn := Lib.hid hn
    clear hn hS
    go_enter Try.func89, Try.ntmps89
    go_wp2
    refine wp_loop_rounds 1 ?_
    rw [rounds_succ]
    go_wp2_with (go_at_call 50; refine (have_big h0 hb).mono ?_; rintro e w2 ⟨rfl, k, rfl⟩)
    go_ret2
    exact ⟨rfl, (h0.drewN k).tail⟩

theorem look_nil (w : World) : Calls Try.prog 105 #[.pointer none, .int .i64 0] w fun e w' => e = .returned (.int .i64 (-1)) ∧ w = w' := by
  go_enter Try.func105, Try.ntmps105
  go_wp2_with (go_at_call 50; refine (have_nil _).mono ?_; rintro e w2 ⟨rfl, rfl⟩)
  go_ret
  exact ⟨rfl, rfl⟩

set_option maxHeartbeats 1000000 in
theorem next_nilreader {w : World} {c : Nat} {L : List Nat} {Rs : List Res} (hS : Sat w (code c L :: Rs)) :
    Calls Try.prog 89 #[.pointer (some ⟨c, 0, none⟩), .pointer none] w fun e w' => e = .returned (.tuple #[.int .i64 0, .int .i64 2]) ∧ Sat w' Rs := by
  have hh : has (0, 0) (D1of L (ord L 15)) = none := by
    cases h : has (0, 0) (D1of L (ord L 15)) with
    | none => rfl
    | some v =>
      obtain ⟨t, ht, hw, -⟩ := has_D1 _ _ _ _ h
      have := wd_pos ht
      rw [hw] at this
      simp at this
  obtain ⟨m1, m2, vw, h⟩ := code_open hS
  go_enter Try.func89, Try.ntmps89
  go_wp2
  have h0 : Sat (w.alloc (.cells #[.int .i64 0, .int .i64 0] 153)) (blk w.heap.size (.cells #[.int .i64 (0 : Nat), .int .i64 (0 : Nat)] 153 (0, 0)) :: (newRes L (ord L 15) c m1 m2 vw (D2of L (ord L 15)) ++ Rs)) := h.alloc _
  generalize (w.alloc (.cells #[.int .i64 0, .int .i64 0] 153)) = W at h0 ⊢
  generalize w.heap.size = wb at h0 ⊢
  have hblk := (h0.at_ 0 _ rfl).choose_spec.2
  have hcb := (h0.at_ 1 _ rfl).choose_spec.2
  have q0 : W.cell? ⟨wb, 0, none⟩ = some (.int .i64 0) := by rw [cell_of_row W wb 0 _ _ _ hblk]; rfl
  have q1 : W.cell? ⟨wb, 1, none⟩ = some (.int .i64 0) := by rw [cell_of_row W wb 1 _ _ _ hblk]; rfl
  have q2 : W.cell? ⟨c, 0, none⟩ = some (.map (some m1)) := by rw [cell_of_row W c 0 _ _ _ hcb]; rfl
  have q3 : W.cell? ⟨c, 2, none⟩ = some (.map (some m2)) := by rw [cell_of_row W c 2 _ _ _ hcb]; rfl
  have hlk := run_lookup_enc keyW (h0.drew.front 2 _ rfl).mp_at 146 3 Try.underlying146 (.int .i64 0) (fun w => by kernel_rfl) ((0 : Nat), (0 : Nat)) true
  simp only [hh, if_true, Option.getD_none, Option.isSome_none] at hlk
  have hlk' : (Instr.lookup 146 (.map (some m1)) (.agg #[.int .i64 0, .int .i64 0]) true).run Try.prog W.drew = .ok (.tuple #[.int .i64 0, .bool false]) W.drew := hlk
  have Hend : ∀ k, Sat (W.drewN k) Rs := fun k => (Sat.perm (As := [_, _, _, _, _]) (h0.drewN k) [] [] rfl (by simp))
  have HE := Lib.hid Hend
  clear hlk hh hblk hcb Hend
  refine wp_loop_rounds 1 ?_
  rw [rounds_succ]
  go_wp2_with fail
  go_region_held3 (fun w' => w'.cell? ⟨wb, 0, none⟩ = some (.int .i64 0) ∧ w'.cell? ⟨wb, 1, none⟩ = some (.int .i64 0) ∧ w'.cell? ⟨c, 0, none⟩ = some (.map (some m1)) ∧ w'.cell? ⟨c, 2, none⟩ = some (.map (some m2))) (go_keep) (fail)
  go_wp2_with fail
  go_quiet (fail)
  go_wp2_with (go_at_call 105; refine (look_nil _).mono ?_; rintro e w2 ⟨rfl, rfl⟩)
  go_ret2
  exact ⟨rfl, HE.out _⟩

end Go.Proofs.Ytdpocnkeokplpaa
