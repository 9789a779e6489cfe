/- Package bits: the writer's contracts. -/
import Derived.Test.YtobkmkdnkdbgeaaRd
import Derived.Test.YtobkmkdnkdbgeaaRange
namespace Go.Proofs.Ytobkmkdnkdbgeaa
open Go.RowKit Go.Hal
set_option linter.unusedVariables false
set_option linter.unusedSimpArgs false

/-- A bit is put into a byte. -/
def orBit (x : UInt8) (k : Nat) (b : Bool) : UInt8 := UInt8.ofNat (x.toNat ||| b.toNat * 2 ^ k)
theorem orBit_toNat (x : UInt8) (k : Nat) (b : Bool) (hk : k < 8) : (orBit x k b).toNat = x.toNat ||| b.toNat * 2 ^ k := by
  unfold orBit
  rw [UInt8.toNat_ofNat']
  refine Nat.mod_eq_of_lt ?_
  refine Nat.or_lt_two_pow x.toNat_lt ?_
  cases b
  · simp
  · simp only [Bool.toNat_true, Nat.one_mul]
    exact Nat.pow_lt_pow_right (by omega) hk
theorem orBit_testBit (x : UInt8) (k : Nat) (b : Bool) (hk : k < 8) (j : Nat) : (orBit x k b).toNat.testBit j = (x.toNat.testBit j || (b && decide (j = k))) := by
  rw [orBit_toNat x k b hk, Nat.testBit_or]
  congr 1
  cases b
  · simp
  · simp only [Bool.toNat_true, Nat.one_mul, Bool.true_and]
    rw [Nat.testBit_two_pow]
    by_cases h : j = k
    · simp [h]
    · have : ¬ k = j := fun e => h e.symm
      simp [h, this]

theorem pad_get (l : List Bool) (p k : Nat) (hk : k < l.length + p) : (l ++ List.replicate p false)[k]? = some ((l[k]?).getD false) := by
  rcases Nat.lt_or_ge k l.length with h | h
  · rw [List.getElem?_append_left h, List.getElem?_eq_getElem h]; rfl
  · rw [List.getElem?_append_right h, List.getElem?_replicate, if_pos (by omega), List.getElem?_eq_none h]; rfl
theorem one_get (l : List Bool) (b : Bool) (k : Nat) (hk : k ≠ l.length) : ((l ++ [b])[k]?).getD false = (l[k]?).getD false := by
  rcases Nat.lt_or_ge k l.length with h | h
  · rw [List.getElem?_append_left h]
  · rw [List.getElem?_eq_none (l := l ++ [b]) (by simp; omega), List.getElem?_eq_none h]

theorem put_bit (bs : List UInt8) (l : List Bool) (p : Nat) (b : Bool) (h : bitsOf bs = l ++ List.replicate (p + 1) false) (hl : l.length / 8 < bs.length) :
    bitsOf (bs.set (l.length / 8) (orBit bs[l.length / 8] (l.length % 8) b)) = (l ++ [b]) ++ List.replicate p false := by
  have hlen := congrArg List.length h
  simp only [bitsOf_length, List.length_append, List.length_replicate] at hlen
  refine List.ext_getElem? fun k => ?_
  by_cases hk : k < 8 * bs.length
  · rw [bitsOf_get _ k (by simpa using hk), pad_get _ _ _ (by simp; omega)]
    have h0 := bitsOf_get bs k hk
    rw [h, pad_get _ _ _ (by omega)] at h0
    have hkb : k / 8 < bs.length := by omega
    rw [List.getElem?_eq_getElem hkb, Option.map_some, Option.some.injEq] at h0
    rw [List.getElem?_set]
    by_cases e : l.length / 8 = k / 8
    · rw [if_pos e, if_pos hl, Option.map_some, orBit_testBit _ _ _ (by omega)]
      have hx : bs[l.length / 8] = bs[k / 8] := by simp only [e]
      rw [hx, ← h0]
      by_cases e2 : k = l.length
      · subst e2
        rw [List.getElem?_eq_none (Nat.le_refl _)]
        simp
      · have e3 : ¬ k % 8 = l.length % 8 := by omega
        rw [one_get _ _ _ e2]
        simp [e3]
    · have e2 : k ≠ l.length := by rintro rfl; exact e rfl
      rw [if_neg e, List.getElem?_eq_getElem hkb, Option.map_some, one_get _ _ _ e2, h0]
  · rw [List.getElem?_eq_none (by simp; omega), List.getElem?_eq_none (by simp; omega)]

/-- The two cells of a block. -/
theorem two_cells {w : World} {r : Nat} {Rs : List Res} {a b : Value} {t : TypeId} (hS : Sat w (blk r (.cells #[a, b] t (0, 0)) :: Rs)) :
    w.cell? ⟨r, 0, none⟩ = some a ∧ w.cell? ⟨r, 1, none⟩ = some b ∧ w.frozen? ⟨r, 0, none⟩ = false ∧ w.frozen? ⟨r, 1, none⟩ = false := by
  have h := hS.heap
  exact ⟨by rw [cell_of_row w r 0 _ _ _ h]; rfl, by rw [cell_of_row w r 1 _ _ _ h]; rfl, frozen_of_row w r 0 _ _ h, frozen_of_row w r 1 _ _ h⟩

/-- A writer that has these bits. -/
def wrt (r : Nat) (l : List Bool) : Res := ex fun x : Value × List UInt8 =>
  star (star (blk r (.cells #[x.1, .int .i64 (l.length : Nat)] 110 (0, 0))) (sl 5 1 x.2.length x.1 (x.2.map byteV)))
    (pur (x.2.length = (l.length + 7) / 8 ∧ bitsOf x.2 = l ++ List.replicate (8 * x.2.length - l.length) false))
theorem wrt_open {w : World} {r : Nat} {l : List Bool} {Rs : List Res} (hS : Sat w (wrt r l :: Rs)) :
    ∃ (v : Value) (bs : List UInt8), Sat w (blk r (.cells #[v, .int .i64 (l.length : Nat)] 110 (0, 0)) :: sl 5 1 bs.length v (bs.map byteV) :: Rs) ∧
      bs.length = (l.length + 7) / 8 ∧ bitsOf bs = l ++ List.replicate (8 * bs.length - l.length) false := by
  obtain ⟨⟨v, bs⟩, h⟩ := hS.ex_out
  have h2 := h.star_out
  have hp := (h2.at_ 1 _ rfl).choose_spec
  have h3 := Sat.perm (As := [_, _]) (Bs := [_]) h2 [0] rfl (by simp)
  exact ⟨v, bs, h3.star_out, hp⟩
theorem wrt_shut {w : World} {r : Nat} {l : List Bool} {Rs : List Res} {v : Value} {bs : List UInt8} (hS : Sat w (blk r (.cells #[v, .int .i64 (l.length : Nat)] 110 (0, 0)) :: sl 5 1 bs.length v (bs.map byteV) :: Rs))
    (h1 : bs.length = (l.length + 7) / 8) (h2 : bitsOf bs = l ++ List.replicate (8 * bs.length - l.length) false) : Sat w (wrt r l :: Rs) := by
  refine Sat.ex_in (v, bs) ?_
  refine hS.star_in.conv (fun F hF => ⟨fun _ => True, ?_, ⟨h1, h2⟩⟩)
  obtain ⟨G, ha, hb⟩ := hF
  exact ⟨G, by simpa using ha, by simpa using hb⟩

theorem newWriter_any {w : World} {Rs : List Res} (hS : Sat w Rs) :
    Calls Try.prog 29 #[] w fun e w' => ∃ r, e = .returned (.pointer (some ⟨r, 0, none⟩)) ∧ Sat w' (wrt r [] :: Rs) := by
  go_enter Try.func29, Try.ntmps29
  go_wp2
  go_ret
  refine ⟨_, rfl, ?_⟩
  exact wrt_shut (v := .slice none 0 0) (bs := []) ((hS.alloc _).sl_nil 5 1 none).swap (by simp) (by simp)

/-- The lowest n bits of a number. -/
def low (v n : Nat) : List Bool := (List.range n).map fun i => v.testBit i
theorem low_succ (v n : Nat) : low v (n + 1) = low v n ++ [v.testBit n] := by simp [low, List.range_succ]
theorem low_length (v n : Nat) : (low v n).length = n := by simp [low]
theorem num_low (v n : Nat) : num (low v n) = v % 2 ^ n := by
  refine (num_eq fun k => ?_).symm
  rw [Nat.testBit_mod_two_pow]
  unfold low
  rw [List.getElem?_map]
  by_cases h : k < n
  · rw [List.getElem?_range h]; simp [h]
  · rw [List.getElem?_eq_none (by simp; omega)]; simp [h]

theorem wraps_u8 (n : Int) (h₀ : 0 ≤ n) (h₁ : n < 2 ^ 8) : IntKind.u8.wrap n = n := by
  rw [IntKind.wrap_u8']; omega
theorem or_put (z : UInt8) (x d : Nat) (b : Bool) (hd : d = b.toNat) (hx : x < 8) :
    bits .or .u8 (z.toNat : Int) (IntKind.u8.wrap (IntKind.u8.wrap (d : Int) * 2 ^ min (IntKind.u64.wrap (x : Int)).toNat 8)) = ((orBit z x b).toNat : Int) := by
  have e : min (IntKind.u64.wrap (x : Int)).toNat 8 = x := by rw [u64_id _ (by omega) (by omega)]; omega
  have hd1 : d ≤ 1 := by rw [hd]; cases b <;> simp
  have hp : d * 2 ^ x < 2 ^ 8 := by
    have h1 : 2 ^ x ≤ 2 ^ 7 := Nat.pow_le_pow_right (by omega) (by omega)
    have h2 : d * 2 ^ x ≤ 1 * 2 ^ 7 := Nat.mul_le_mul hd1 h1
    omega
  have e1 : IntKind.u8.wrap (d : Int) = d := wraps_u8 _ (by omega) (by omega)
  have e2 : ((d : Int) * 2 ^ x) = ((d * 2 ^ x : Nat) : Int) := by simp
  rw [e, e1, e2, wraps_u8 _ (by omega) (by exact_mod_cast hp), (bits_nat .u8 8 (by decide) wraps_u8 z.toNat _ z.toNat_lt hp).2, orBit_toNat _ _ _ hx, hd]

set_option maxRecDepth 100000 in
set_option maxHeartbeats 2000000 in
theorem put_wrt {w : World} {r : Nat} {l : List Bool} {Rs : List Res} (hS : Sat w (wrt r l :: Rs)) (v n : Nat) (hv : v < 2 ^ 60) (hn : n ≤ 32) (hl : l.length ≤ 1099511627776) :
    Calls Try.prog 30 #[.pointer (some ⟨r, 0, none⟩), .int .i64 v, .int .i64 n] w fun e w' => e = .returned (.tuple #[]) ∧ Sat w' (wrt r (l ++ low v n) :: Rs) := by
  have hmin : min (n : Int) 32 = n := by omega
  obtain ⟨i0, hi, hz0, hz1, hz2⟩ := info_parts Try.infoU8
  go_enter Try.func30, Try.ntmps30
  go_wp2
  go_loopw [1, 10] (fun x i wr => ∃ k q : Nat, k ≤ n ∧ Hid (q = v / 2 ^ k) ∧ q < 2 ^ 60 ∧ x = .int .i64 q ∧ i = .int .i64 k ∧ Sat wr (wrt r (l ++ low v k) :: Rs)) (fun _ i _ => n - (intOf i).toNat)
  case atStart => exact ⟨0, v, by omega, by unfold Hid; simp, hv, rfl, rfl, by simpa [low] using hS⟩
  case round =>
    obtain ⟨k, q, hk, Hq, hq, rfl, rfl, hS1⟩ := hrel
    by_cases hlt : k < n
    · have hd : decide (k < n) = true := decide_eq_true hlt
      obtain ⟨bv, bs, hS2, hb1, hb2⟩ := wrt_open hS1
      obtain ⟨m, hm⟩ : ∃ m, m = (l ++ low v k).length := ⟨_, rfl⟩
      have hml : m ≤ 1099511627808 := by rw [hm, List.length_append, low_length]; omega
      rw [← hm] at hS2 hb1 hb2
      have hq2 : q / 2 = v / 2 ^ (k + 1) := by rw [Hq.out, Nat.div_div_eq_div_mul, Nat.pow_succ]
      have hbit : bits .and .i64 (q : Int) 1 = ((v.testBit k).toNat : Nat) := by
        rw [and1 _ (by omega) (by omega), testBit_div, ← Hq.out]; omega
      have hfin : ∀ (W : World) (v' : Value) (bs' : List UInt8), bs'.length = (m + 8) / 8 → bitsOf bs' = (l ++ low v (k + 1)) ++ List.replicate (8 * bs'.length - (m + 1)) false →
          Sat W (blk r (.cells #[v', .int .i64 ((m : Int) + 1)] 110 (0, 0)) :: sl 5 1 bs'.length v' (bs'.map byteV) :: Rs) → Sat W (wrt r (l ++ low v (k + 1)) :: Rs) := by
        intro W v' bs' h1 h2 h3
        have hm1 : (l ++ low v (k + 1)).length = m + 1 := by rw [hm, low_succ]; simp [low_length]; omega
        refine wrt_shut (v := v') (bs := bs') ?_ (by rw [hm1, h1]) (by rw [hm1]; exact h2)
        rw [hm1]
        have e : (((m + 1 : Nat)) : Int) = (m : Int) + 1 := by omega
        rw [e]
        exact h3
      have Hfin := Lib.hid hfin
      have Hbit := Lib.hid hbit
      have Hq2 := Lib.hid hq2
      have Hm := Lib.hid hm
      have Hb1 := Lib.hid hb1
      have Hb2 := Lib.hid hb2
      obtain ⟨F, ao, cap, rfl, -, -, -, -⟩ := hS2.at_ 1 _ rfl
      obtain ⟨c0, c1, f0, f1⟩ := two_cells hS2
      obtain ⟨x, Hx⟩ : ∃ x, Hid (x = m % 8) := ⟨_, Lib.hid rfl⟩
      have hx8 : x < 8 := by rw [Hx.out]; omega
      have h7 : bits .and .i64 (m : Int) 7 = (x : Nat) := by
        rw [and7 _ (by omega) (by omega), Hx.out]; omega
      clear hfin hbit hq2 hm hb1 hb2
      by_cases hx0 : x = 0
      · have hx1 : ((x : Int) == 0) = true := by simp [hx0]
        have Hx0 := Lib.hid hx0
        have hA := hS2.sl_made (e := 5) (size := 1) (n := 1) (cap := 1) (cur := #[.int .u8 0]) (xs := [.int .u8 0]) (by omega) (by decide) rfl (by simp) (fun j u hu => by simpa using hu)
        have hsrc := SlR.src (P := Try.prog) hA.sl_read Try.underlying43 (by simp [Value.oneCell'])
        have hA2 := Sat.perm (As := [_, _, _]) hA [2, 1] [_, _] rfl (by simp)
        have Hsrc := Lib.hid hsrc
        have hbl : bs.length ≤ 137438953480 := by rw [Hb1.out]; omega
        clear hx0 hA hsrc
        go_wp2_with (at_builtin; refine wpList_append_sat _ rfl _ _ 43 43 rfl 5 i0 (.int .u8 0) 1 1 Try.underlying43 hi hz0 hz1 hz2 rfl (by decide) bs.length _ _ _ rfl hA2 1 _ _ rfl Hsrc.out ?_ ?_ ?_)
        · unfold maxLen; omega
        · omega
        · intro v' w' hS5
          obtain ⟨F5, ao5, cap5, rfl, -, -, -, -⟩ := hS5.first
          obtain ⟨d0, d1, e0, e1⟩ := two_cells hS5.swap
          have hS6 := Sat.setCell (i := 0) hS5.swap (.slice ao5 (bs.length + 1) cap5)
          go_wp2
          generalize (w'.setCell ⟨r, 0, none⟩ (.slice ao5 (bs.length + 1) cap5)) = W at hS6 ⊢
          obtain ⟨bs2, Hbs2⟩ : ∃ bs2, Hid (bs2 = bs ++ [0]) := ⟨_, Lib.hid rfl⟩
          have hS7 : Sat W (blk r (.cells #[.slice ao5 bs2.length cap5, .int .i64 (m : Nat)] 110 (0, 0)) :: sl 5 1 bs2.length (.slice ao5 bs2.length cap5) (bs2.map byteV) :: Rs) := by
            rw [Hbs2.out, List.length_append, List.map_append]; exact hS6
          have Hlen2 : Hid (bs2.length = m / 8 + 1) := by
            unfold Hid; rw [Hbs2.out, List.length_append, Hb1.out, List.length_singleton]; have := Hx.out; have := Hx0.out; omega
          have Hbits2 : Hid (bitsOf bs2 = (l ++ low v k) ++ List.replicate (8 * bs2.length - m) false) := by
            unfold Hid
            have h8 : 8 * bs.length = m := by rw [Hb1.out]; have := Hx.out; have := Hx0.out; omega
            have hb2 := Hb2.out
            rw [h8, Nat.sub_self, List.replicate_zero, List.append_nil] at hb2
            rw [Hbs2.out, bitsOf_append, hb2, List.length_append, List.length_singleton, show 8 * (bs.length + 1) - m = 8 by omega]
            rfl
          have hlb : bs.length + 1 = bs2.length := by rw [Hbs2.out]; simp
          simp only [hlb]
          obtain ⟨y, Hy⟩ : ∃ y, Hid (y = m / 8) := ⟨_, Lib.hid rfl⟩
          obtain ⟨ao2, rfl⟩ : ∃ a, a = ao5 := ⟨_, rfl⟩
          obtain ⟨cap2, rfl⟩ : ∃ c, c = cap5 := ⟨_, rfl⟩
          clear hS6 hS5 hA2 hS2 hS1 d0 d1 e0 e1 c0 c1 f0 f1 hlb hx1

          have hy8 : (m : Int) / 8 = (y : Nat) := by rw [Hy.out]; omega
          have hyl : y < bs2.length := by rw [Hy.out, Hlen2.out]; omega
          obtain ⟨b2, o2, cap3, heq, -, -, -, hc2, hf2⟩ := (hS7.front 1 _ rfl).sl_cells (by omega)
          simp only [Value.slice.injEq, true_and] at heq
          obtain ⟨rfl, rfl⟩ := heq
          obtain ⟨z, Hz⟩ : ∃ z : UInt8, Hid (z = bs2[y]) := ⟨_, Lib.hid rfl⟩
          have hcy := hc2 y (.int .u8 z.toNat) (by rw [List.getElem?_map, List.getElem?_eq_getElem hyl, Hz.out]; rfl)
          have hfy := hf2 y
          obtain ⟨e0, e1, -, -⟩ := two_cells hS7
          have hz := UInt8.toNat_lt z
          obtain ⟨d, Hd⟩ : ∃ d, Hid (d = (v.testBit k).toNat) := ⟨_, Lib.hid rfl⟩
          have hbit := Hbit.out
          rw [← Hd.out] at hbit
          have hd1 : d ≤ 1 := by rw [Hd.out]; cases v.testBit k <;> simp
          have hyn : (y : Int) < (bs2.length : Int) := by omega
          clear hc2 hf2
          refine wp_region_hz (z := 23) (S := fun w' => w'.cell? ⟨r, 0, none⟩ = some (.slice (some ⟨b2, o2, none⟩) bs2.length cap2) ∧ w'.cell? ⟨r, 1, none⟩ = some (.int .i64 m) ∧ w'.cell? ⟨b2, o2 + y, none⟩ = some (.int .u8 z.toNat)) (by kernel_rfl) ⟨e0, e1, hcy⟩ (fun hHeld => ?_)
          refine wpHz_taken 0 27 ?v1 (by kernel_rfl) (by kernel_rfl) (by kernel_rfl) (by kernel_rfl) (by kernel_rfl) (fun _ _ _ h => h) (by rfl) ?hy1 (by assumption) ?rest1
          case hy1 => intro w hSw; (try dsimp only at hSw); simp only [List.getElem?_toArray, List.getElem?_cons_zero, List.getElem?_cons_succ]; go_simp; (try with_reducible rfl)
          try simp only [Act.put, List.setIfInBounds_toArray, List.set_cons_zero, List.set_cons_succ]
          refine wpHz_taken 1 28 ?v2 (by kernel_rfl) (by kernel_rfl) (by kernel_rfl) (by kernel_rfl) (by kernel_rfl) (fun _ _ _ h => h) (by rfl) ?hy2 (by assumption) ?rest2
          case hy2 => intro w hSw; (try dsimp only at hSw); simp only [List.getElem?_toArray, List.getElem?_cons_zero, List.getElem?_cons_succ]; go_simp; (try with_reducible rfl)
          try simp only [Act.put, List.setIfInBounds_toArray, List.set_cons_zero, List.set_cons_succ]
          refine wpHz_taken 2 29 ?v3 (by kernel_rfl) (by kernel_rfl) (by kernel_rfl) (by kernel_rfl) (by kernel_rfl) (fun _ _ _ h => h) (by rfl) ?hy3 (by assumption) ?rest3
          case hy3 => intro w hSw; (try dsimp only at hSw); simp only [List.getElem?_toArray, List.getElem?_cons_zero, List.getElem?_cons_succ]; go_simp; (try with_reducible rfl)
          try simp only [Act.put, List.setIfInBounds_toArray, List.set_cons_zero, List.set_cons_succ]
          refine wpHz_taken 3 30 ?v4 (by kernel_rfl) (by kernel_rfl) (by kernel_rfl) (by kernel_rfl) (by kernel_rfl) (fun _ _ _ h => h) (by rfl) ?hy4 (by assumption) ?rest4
          case hy4 => intro w hSw; (try dsimp only at hSw); simp only [List.getElem?_toArray, List.getElem?_cons_zero, List.getElem?_cons_succ]; go_simp; (try with_reducible rfl)
          try simp only [Act.put, List.setIfInBounds_toArray, List.set_cons_zero, List.set_cons_succ]
          refine wpHz_taken 4 31 ?v5 (by kernel_rfl) (by kernel_rfl) (by kernel_rfl) (by kernel_rfl) (by kernel_rfl) (fun _ _ _ h => h) (by rfl) ?hy5 (by assumption) ?rest5
          case hy5 => intro w hSw; (try dsimp only at hSw); simp only [List.getElem?_toArray, List.getElem?_cons_zero, List.getElem?_cons_succ]; go_simp; (try with_reducible rfl)
          try simp only [Act.put, List.setIfInBounds_toArray, List.set_cons_zero, List.set_cons_succ]
          refine wpHz_taken 5 32 ?v6 (by kernel_rfl) (by kernel_rfl) (by kernel_rfl) (by kernel_rfl) (by kernel_rfl) (fun _ _ _ h => h) (by rfl) ?hy6 (by assumption) ?rest6
          case hy6 => intro w hSw; (try dsimp only at hSw); simp only [List.getElem?_toArray, List.getElem?_cons_zero, List.getElem?_cons_succ]; go_simp; (try with_reducible rfl)
          try simp only [Act.put, List.setIfInBounds_toArray, List.set_cons_zero, List.set_cons_succ]
          refine wpHz_taken 6 33 ?v7 (by kernel_rfl) (by kernel_rfl) (by kernel_rfl) (by kernel_rfl) (by kernel_rfl) (fun _ _ _ h => h) (by rfl) ?hy7 (by assumption) ?rest7
          case hy7 => intro w hSw; (try dsimp only at hSw); simp only [List.getElem?_toArray, List.getElem?_cons_zero, List.getElem?_cons_succ]; go_simp; (try with_reducible rfl)
          try simp only [Act.put, List.setIfInBounds_toArray, List.set_cons_zero, List.set_cons_succ]
          refine wpHz_taken 7 34 ?v8 (by kernel_rfl) (by kernel_rfl) (by kernel_rfl) (by kernel_rfl) (by kernel_rfl) (fun _ _ _ h => h) (by rfl) ?hy8 (by assumption) ?rest8
          case hy8 => intro w hSw; (try dsimp only at hSw); simp only [List.getElem?_toArray, List.getElem?_cons_zero, List.getElem?_cons_succ]; go_simp; (try with_reducible rfl)
          try simp only [Act.put, List.setIfInBounds_toArray, List.set_cons_zero, List.set_cons_succ]
          refine wpHz_taken 8 35 ?v9 (by kernel_rfl) (by kernel_rfl) (by kernel_rfl) (by kernel_rfl) (by kernel_rfl) (fun _ _ _ h => h) (by rfl) ?hy9 (by assumption) ?rest9
          case hy9 => intro w hSw; (try dsimp only at hSw); simp only [List.getElem?_toArray, List.getElem?_cons_zero, List.getElem?_cons_succ]; go_simp; (try with_reducible rfl)
          try simp only [Act.put, List.setIfInBounds_toArray, List.set_cons_zero, List.set_cons_succ]
          refine wpHz_taken 9 36 ?v10 (by kernel_rfl) (by kernel_rfl) (by kernel_rfl) (by kernel_rfl) (by kernel_rfl) (fun _ _ _ h => h) (by rfl) ?hy10 (by assumption) ?rest10
          case hy10 => intro w hSw; (try dsimp only at hSw); simp only [List.getElem?_toArray, List.getElem?_cons_zero, List.getElem?_cons_succ]; go_simp; (try with_reducible rfl)
          try simp only [Act.put, List.setIfInBounds_toArray, List.set_cons_zero, List.set_cons_succ]
          refine wpHz_taken 10 37 ?v11 (by kernel_rfl) (by kernel_rfl) (by kernel_rfl) (by kernel_rfl) (by kernel_rfl) (fun _ _ _ h => h) (by rfl) ?hy11 (by assumption) ?rest11
          case hy11 => intro w hSw; (try dsimp only at hSw); simp only [List.getElem?_toArray, List.getElem?_cons_zero, List.getElem?_cons_succ]; go_simp; (try with_reducible rfl)
          try simp only [Act.put, List.setIfInBounds_toArray, List.set_cons_zero, List.set_cons_succ]
          refine wpHz_taken 11 38 ?v12 (by kernel_rfl) (by kernel_rfl) (by kernel_rfl) (by kernel_rfl) (by kernel_rfl) (fun _ _ _ h => h) (by rfl) ?hy12 (by assumption) ?rest12
          case hy12 => intro w hSw; (try dsimp only at hSw); simp only [List.getElem?_toArray, List.getElem?_cons_zero, List.getElem?_cons_succ]; go_simp; (try with_reducible rfl)
          try simp only [Act.put, List.setIfInBounds_toArray, List.set_cons_zero, List.set_cons_succ]
          refine wpHz_taken 12 39 ?v13 (by kernel_rfl) (by kernel_rfl) (by kernel_rfl) (by kernel_rfl) (by kernel_rfl) (fun _ _ _ h => h) (by rfl) ?hy13 (by assumption) ?rest13
          case hy13 => intro w hSw; (try dsimp only at hSw); simp only [List.getElem?_toArray, List.getElem?_cons_zero, List.getElem?_cons_succ]; go_simp; (try with_reducible rfl)
          try simp only [Act.put, List.setIfInBounds_toArray, List.set_cons_zero, List.set_cons_succ]
          refine wpHz_taken 13 40 ?v14 (by kernel_rfl) (by kernel_rfl) (by kernel_rfl) (by kernel_rfl) (by kernel_rfl) (fun _ _ _ h => h) (by rfl) ?hy14 (by assumption) ?rest14
          case hy14 => intro w hSw; (try dsimp only at hSw); simp only [List.getElem?_toArray, List.getElem?_cons_zero, List.getElem?_cons_succ]; go_simp; (try with_reducible rfl)
          try simp only [Act.put, List.setIfInBounds_toArray, List.set_cons_zero, List.set_cons_succ]
          refine wpHz_taken 14 41 ?v15 (by kernel_rfl) (by kernel_rfl) (by kernel_rfl) (by kernel_rfl) (by kernel_rfl) (fun _ _ _ h => h) (by rfl) ?hy15 (by assumption) ?rest15
          case hy15 => intro w hSw; (try dsimp only at hSw); simp only [List.getElem?_toArray, List.getElem?_cons_zero, List.getElem?_cons_succ]; go_simp; (try with_reducible rfl)
          try simp only [Act.put, List.setIfInBounds_toArray, List.set_cons_zero, List.set_cons_succ]
          refine wpHz_taken 15 42 ?v16 (by kernel_rfl) (by kernel_rfl) (by kernel_rfl) (by kernel_rfl) (by kernel_rfl) (fun _ _ _ h => h) (by rfl) ?hy16 (by assumption) ?rest16
          case hy16 => intro w hSw; (try dsimp only at hSw); simp only [List.getElem?_toArray, List.getElem?_cons_zero, List.getElem?_cons_succ]; go_simp; (try with_reducible rfl)
          try simp only [Act.put, List.setIfInBounds_toArray, List.set_cons_zero, List.set_cons_succ]
          refine wpHz_taken 16 43 ?v17 (by kernel_rfl) (by kernel_rfl) (by kernel_rfl) (by kernel_rfl) (by kernel_rfl) (fun _ _ _ h => h) (by rfl) ?hy17 (by assumption) ?rest17
          case hy17 => intro w hSw; (try dsimp only at hSw); simp only [List.getElem?_toArray, List.getElem?_cons_zero, List.getElem?_cons_succ]; go_simp; (try with_reducible rfl)
          try simp only [Act.put, List.setIfInBounds_toArray, List.set_cons_zero, List.set_cons_succ]
          refine wpHz_taken 17 44 ?v18 (by kernel_rfl) (by kernel_rfl) (by kernel_rfl) (by kernel_rfl) (by kernel_rfl) (fun _ _ _ h => h) (by rfl) ?hy18 (by assumption) ?rest18
          case hy18 => intro w hSw; (try dsimp only at hSw); simp only [List.getElem?_toArray, List.getElem?_cons_zero, List.getElem?_cons_succ]; go_simp; (try with_reducible rfl)
          try simp only [Act.put, List.setIfInBounds_toArray, List.set_cons_zero, List.set_cons_succ]
          refine wpHz_taken 18 45 ?v19 (by kernel_rfl) (by kernel_rfl) (by kernel_rfl) (by kernel_rfl) (by kernel_rfl) (fun _ _ _ h => h) (by rfl) ?hy19 (by assumption) ?rest19
          case hy19 => intro w hSw; (try dsimp only at hSw); simp only [List.getElem?_toArray, List.getElem?_cons_zero, List.getElem?_cons_succ]; go_simp; (try with_reducible rfl)
          try simp only [Act.put, List.setIfInBounds_toArray, List.set_cons_zero, List.set_cons_succ]
          refine wpHz_taken 19 46 ?v20 (by kernel_rfl) (by kernel_rfl) (by kernel_rfl) (by kernel_rfl) (by kernel_rfl) (fun _ _ _ h => h) (by rfl) ?hy20 (by assumption) ?rest20
          case hy20 => intro w hSw; (try dsimp only at hSw); simp only [List.getElem?_toArray, List.getElem?_cons_zero, List.getElem?_cons_succ]; go_simp; (try with_reducible rfl)
          try simp only [Act.put, List.setIfInBounds_toArray, List.set_cons_zero, List.set_cons_succ]
          refine wpHz_taken 20 47 ?v21 (by kernel_rfl) (by kernel_rfl) (by kernel_rfl) (by kernel_rfl) (by kernel_rfl) (fun _ _ _ h => h) (by rfl) ?hy21 (by assumption) ?rest21
          case hy21 => intro w hSw; (try dsimp only at hSw); simp only [List.getElem?_toArray, List.getElem?_cons_zero, List.getElem?_cons_succ]; go_simp; (try with_reducible rfl)
          try simp only [Act.put, List.setIfInBounds_toArray, List.set_cons_zero, List.set_cons_succ]
          refine wpHz_taken 21 48 ?v22 (by kernel_rfl) (by kernel_rfl) (by kernel_rfl) (by kernel_rfl) (by kernel_rfl) (fun _ _ _ h => h) (by rfl) ?hy22 (by assumption) ?rest22
          case hy22 => intro w hSw; (try dsimp only at hSw); simp only [List.getElem?_toArray, List.getElem?_cons_zero, List.getElem?_cons_succ]; go_simp; (try with_reducible rfl)
          try simp only [Act.put, List.setIfInBounds_toArray, List.set_cons_zero, List.set_cons_succ]
          refine wpHz_taken 22 49 ?v23 (by kernel_rfl) (by kernel_rfl) (by kernel_rfl) (by kernel_rfl) (by kernel_rfl) (fun _ _ _ h => h) (by rfl) ?hy23 (by assumption) ?rest23
          case hy23 => intro w hSw; (try dsimp only at hSw); simp only [List.getElem?_toArray, List.getElem?_cons_zero, List.getElem?_cons_succ]; go_simp; (try with_reducible rfl)
          try simp only [Act.put, List.setIfInBounds_toArray, List.set_cons_zero, List.set_cons_succ]
          refine wpHz_one 23 (by kernel_rfl) (by rfl) (fun K hK => ?_)
          simp only [List.getElem?_toArray, List.getElem?_cons_zero, List.getElem?_cons_succ]
          go_simp
          rw [or_put z x d (v.testBit k) Hd.out hx8]
          refine hK.out _ _ (fun h => absurd rfl h) (fun _ => ?_)
          clear hK K
          try simp only [Act.put, List.setIfInBounds_toArray, List.set_cons_zero, List.set_cons_succ]
          refine wpHz_done (by kernel_rfl) ?_ _
          have hval : (bs2.map byteV).set y (.int .u8 (orBit z x (v.testBit k)).toNat) = (bs2.set y (orBit z x (v.testBit k))).map byteV := by
            rw [List.map_set]; rfl
          have hS8 := (Sat.sl_set hS7.swap y (by simpa using hyl) (.int .u8 (orBit z x (v.testBit k)).toNat)).drew
          rw [hval] at hS8
          obtain ⟨p0, p1, q0, q1⟩ := two_cells hS8.swap
          generalize (W.setCell ⟨b2, o2 + y, none⟩ (.int .u8 (orBit z x (v.testBit k)).toNat)).drew = W9 at hS8 p0 p1 q0 q1 ⊢
          have hS9 := Sat.setCell (i := 1) hS8.swap (.int .i64 ((m : Int) + 1))
          have hbits9 := put_bit bs2 (l ++ low v k) (8 * bs2.length - m - 1) (v.testBit k) (by rw [Hbits2.out]; congr 2; rw [Hlen2.out]; omega) (by rw [← Hm.out, Hlen2.out]; omega)
          have hidx : ∀ (i : Nat) (hi : i < bs2.length), i = y → bs2[i] = z := by
            intro i hi e; subst e; exact Hz.out.symm
          have HW9 := Lib.hid hS9
          have Hbits9 := Lib.hid hbits9
          have Hidx := Lib.hid hidx
          clear hS7 hS8 hcy hfy e0 e1 hbit hval hbits9 hidx hS9
          go_wp2
          go_roundw
          case rel =>
            refine ⟨k + 1, q / 2, by omega, Hq2.out, by omega, vi (by omega), by go_num, ?_⟩
            refine Hfin.out _ (.slice (some ⟨b2, o2, none⟩) bs2.length cap2) (bs2.set y (orBit z x (v.testBit k))) (by rw [List.length_set, Hlen2.out]; omega) ?_ ?_
            · have h1 := Hbits9.out
              rw [Hidx.out _ _ (by rw [← Hm.out, Hy.out])] at h1
              rw [← Hm.out, ← Hx.out, ← Hy.out] at h1
              rw [h1, List.length_set, low_succ, Nat.sub_sub]; simp only [List.append_assoc]
            · rw [List.length_set]
              exact HW9.out
          case measure => simp [intOf]; omega
      · have hx1 : ((x : Int) == 0) = false := by simp; omega
        have hx0' : ¬ m % 8 = 0 := by rw [← Hx.out]; exact hx0
        go_wp2
        obtain ⟨bs2, Hbs2⟩ : ∃ bs2, Hid (bs2 = bs) := ⟨_, Lib.hid rfl⟩
        obtain rfl : bs2 = bs := Hbs2.out
        have Hlen2 : Hid (bs2.length = m / 8 + 1) := by
          unfold Hid; rw [Hb1.out]; omega
        have Hbits2 := Hb2
        have hS7 := hS2
        obtain ⟨y, Hy⟩ : ∃ y, Hid (y = m / 8) := ⟨_, Lib.hid rfl⟩
        obtain ⟨ao2, rfl⟩ : ∃ a, a = ao := ⟨_, rfl⟩
        obtain ⟨cap2, rfl⟩ : ∃ c, c = cap := ⟨_, rfl⟩
        clear hS1 hS2 c0 c1 f0 f1 hx1

        have hy8 : (m : Int) / 8 = (y : Nat) := by rw [Hy.out]; omega
        have hyl : y < bs2.length := by rw [Hy.out, Hlen2.out]; omega
        obtain ⟨b2, o2, cap3, heq, -, -, -, hc2, hf2⟩ := (hS7.front 1 _ rfl).sl_cells (by omega)
        simp only [Value.slice.injEq, true_and] at heq
        obtain ⟨rfl, rfl⟩ := heq
        obtain ⟨z, Hz⟩ : ∃ z : UInt8, Hid (z = bs2[y]) := ⟨_, Lib.hid rfl⟩
        have hcy := hc2 y (.int .u8 z.toNat) (by rw [List.getElem?_map, List.getElem?_eq_getElem hyl, Hz.out]; rfl)
        have hfy := hf2 y
        obtain ⟨e0, e1, -, -⟩ := two_cells hS7
        have hz := UInt8.toNat_lt z
        obtain ⟨d, Hd⟩ : ∃ d, Hid (d = (v.testBit k).toNat) := ⟨_, Lib.hid rfl⟩
        have hbit := Hbit.out
        rw [← Hd.out] at hbit
        have hd1 : d ≤ 1 := by rw [Hd.out]; cases v.testBit k <;> simp
        have hyn : (y : Int) < (bs2.length : Int) := by omega
        clear hc2 hf2
        refine wp_region_hz (z := 23) (S := fun w' => w'.cell? ⟨r, 0, none⟩ = some (.slice (some ⟨b2, o2, none⟩) bs2.length cap2) ∧ w'.cell? ⟨r, 1, none⟩ = some (.int .i64 m) ∧ w'.cell? ⟨b2, o2 + y, none⟩ = some (.int .u8 z.toNat)) (by kernel_rfl) ⟨e0, e1, hcy⟩ (fun hHeld => ?_)
        refine wpHz_taken 0 27 ?v24 (by kernel_rfl) (by kernel_rfl) (by kernel_rfl) (by kernel_rfl) (by kernel_rfl) (fun _ _ _ h => h) (by rfl) ?hy24 (by assumption) ?rest24
        case hy24 => intro w hSw; (try dsimp only at hSw); simp only [List.getElem?_toArray, List.getElem?_cons_zero, List.getElem?_cons_succ]; go_simp; (try with_reducible rfl)
        try simp only [Act.put, List.setIfInBounds_toArray, List.set_cons_zero, List.set_cons_succ]
        refine wpHz_taken 1 28 ?v25 (by kernel_rfl) (by kernel_rfl) (by kernel_rfl) (by kernel_rfl) (by kernel_rfl) (fun _ _ _ h => h) (by rfl) ?hy25 (by assumption) ?rest25
        case hy25 => intro w hSw; (try dsimp only at hSw); simp only [List.getElem?_toArray, List.getElem?_cons_zero, List.getElem?_cons_succ]; go_simp; (try with_reducible rfl)
        try simp only [Act.put, List.setIfInBounds_toArray, List.set_cons_zero, List.set_cons_succ]
        refine wpHz_taken 2 29 ?v26 (by kernel_rfl) (by kernel_rfl) (by kernel_rfl) (by kernel_rfl) (by kernel_rfl) (fun _ _ _ h => h) (by rfl) ?hy26 (by assumption) ?rest26
        case hy26 => intro w hSw; (try dsimp only at hSw); simp only [List.getElem?_toArray, List.getElem?_cons_zero, List.getElem?_cons_succ]; go_simp; (try with_reducible rfl)
        try simp only [Act.put, List.setIfInBounds_toArray, List.set_cons_zero, List.set_cons_succ]
        refine wpHz_taken 3 30 ?v27 (by kernel_rfl) (by kernel_rfl) (by kernel_rfl) (by kernel_rfl) (by kernel_rfl) (fun _ _ _ h => h) (by rfl) ?hy27 (by assumption) ?rest27
        case hy27 => intro w hSw; (try dsimp only at hSw); simp only [List.getElem?_toArray, List.getElem?_cons_zero, List.getElem?_cons_succ]; go_simp; (try with_reducible rfl)
        try simp only [Act.put, List.setIfInBounds_toArray, List.set_cons_zero, List.set_cons_succ]
        refine wpHz_taken 4 31 ?v28 (by kernel_rfl) (by kernel_rfl) (by kernel_rfl) (by kernel_rfl) (by kernel_rfl) (fun _ _ _ h => h) (by rfl) ?hy28 (by assumption) ?rest28
        case hy28 => intro w hSw; (try dsimp only at hSw); simp only [List.getElem?_toArray, List.getElem?_cons_zero, List.getElem?_cons_succ]; go_simp; (try with_reducible rfl)
        try simp only [Act.put, List.setIfInBounds_toArray, List.set_cons_zero, List.set_cons_succ]
        refine wpHz_taken 5 32 ?v29 (by kernel_rfl) (by kernel_rfl) (by kernel_rfl) (by kernel_rfl) (by kernel_rfl) (fun _ _ _ h => h) (by rfl) ?hy29 (by assumption) ?rest29
        case hy29 => intro w hSw; (try dsimp only at hSw); simp only [List.getElem?_toArray, List.getElem?_cons_zero, List.getElem?_cons_succ]; go_simp; (try with_reducible rfl)
        try simp only [Act.put, List.setIfInBounds_toArray, List.set_cons_zero, List.set_cons_succ]
        refine wpHz_taken 6 33 ?v30 (by kernel_rfl) (by kernel_rfl) (by kernel_rfl) (by kernel_rfl) (by kernel_rfl) (fun _ _ _ h => h) (by rfl) ?hy30 (by assumption) ?rest30
        case hy30 => intro w hSw; (try dsimp only at hSw); simp only [List.getElem?_toArray, List.getElem?_cons_zero, List.getElem?_cons_succ]; go_simp; (try with_reducible rfl)
        try simp only [Act.put, List.setIfInBounds_toArray, List.set_cons_zero, List.set_cons_succ]
        refine wpHz_taken 7 34 ?v31 (by kernel_rfl) (by kernel_rfl) (by kernel_rfl) (by kernel_rfl) (by kernel_rfl) (fun _ _ _ h => h) (by rfl) ?hy31 (by assumption) ?rest31
        case hy31 => intro w hSw; (try dsimp only at hSw); simp only [List.getElem?_toArray, List.getElem?_cons_zero, List.getElem?_cons_succ]; go_simp; (try with_reducible rfl)
        try simp only [Act.put, List.setIfInBounds_toArray, List.set_cons_zero, List.set_cons_succ]
        refine wpHz_taken 8 35 ?v32 (by kernel_rfl) (by kernel_rfl) (by kernel_rfl) (by kernel_rfl) (by kernel_rfl) (fun _ _ _ h => h) (by rfl) ?hy32 (by assumption) ?rest32
        case hy32 => intro w hSw; (try dsimp only at hSw); simp only [List.getElem?_toArray, List.getElem?_cons_zero, List.getElem?_cons_succ]; go_simp; (try with_reducible rfl)
        try simp only [Act.put, List.setIfInBounds_toArray, List.set_cons_zero, List.set_cons_succ]
        refine wpHz_taken 9 36 ?v33 (by kernel_rfl) (by kernel_rfl) (by kernel_rfl) (by kernel_rfl) (by kernel_rfl) (fun _ _ _ h => h) (by rfl) ?hy33 (by assumption) ?rest33
        case hy33 => intro w hSw; (try dsimp only at hSw); simp only [List.getElem?_toArray, List.getElem?_cons_zero, List.getElem?_cons_succ]; go_simp; (try with_reducible rfl)
        try simp only [Act.put, List.setIfInBounds_toArray, List.set_cons_zero, List.set_cons_succ]
        refine wpHz_taken 10 37 ?v34 (by kernel_rfl) (by kernel_rfl) (by kernel_rfl) (by kernel_rfl) (by kernel_rfl) (fun _ _ _ h => h) (by rfl) ?hy34 (by assumption) ?rest34
        case hy34 => intro w hSw; (try dsimp only at hSw); simp only [List.getElem?_toArray, List.getElem?_cons_zero, List.getElem?_cons_succ]; go_simp; (try with_reducible rfl)
        try simp only [Act.put, List.setIfInBounds_toArray, List.set_cons_zero, List.set_cons_succ]
        refine wpHz_taken 11 38 ?v35 (by kernel_rfl) (by kernel_rfl) (by kernel_rfl) (by kernel_rfl) (by kernel_rfl) (fun _ _ _ h => h) (by rfl) ?hy35 (by assumption) ?rest35
        case hy35 => intro w hSw; (try dsimp only at hSw); simp only [List.getElem?_toArray, List.getElem?_cons_zero, List.getElem?_cons_succ]; go_simp; (try with_reducible rfl)
        try simp only [Act.put, List.setIfInBounds_toArray, List.set_cons_zero, List.set_cons_succ]
        refine wpHz_taken 12 39 ?v36 (by kernel_rfl) (by kernel_rfl) (by kernel_rfl) (by kernel_rfl) (by kernel_rfl) (fun _ _ _ h => h) (by rfl) ?hy36 (by assumption) ?rest36
        case hy36 => intro w hSw; (try dsimp only at hSw); simp only [List.getElem?_toArray, List.getElem?_cons_zero, List.getElem?_cons_succ]; go_simp; (try with_reducible rfl)
        try simp only [Act.put, List.setIfInBounds_toArray, List.set_cons_zero, List.set_cons_succ]
        refine wpHz_taken 13 40 ?v37 (by kernel_rfl) (by kernel_rfl) (by kernel_rfl) (by kernel_rfl) (by kernel_rfl) (fun _ _ _ h => h) (by rfl) ?hy37 (by assumption) ?rest37
        case hy37 => intro w hSw; (try dsimp only at hSw); simp only [List.getElem?_toArray, List.getElem?_cons_zero, List.getElem?_cons_succ]; go_simp; (try with_reducible rfl)
        try simp only [Act.put, List.setIfInBounds_toArray, List.set_cons_zero, List.set_cons_succ]
        refine wpHz_taken 14 41 ?v38 (by kernel_rfl) (by kernel_rfl) (by kernel_rfl) (by kernel_rfl) (by kernel_rfl) (fun _ _ _ h => h) (by rfl) ?hy38 (by assumption) ?rest38
        case hy38 => intro w hSw; (try dsimp only at hSw); simp only [List.getElem?_toArray, List.getElem?_cons_zero, List.getElem?_cons_succ]; go_simp; (try with_reducible rfl)
        try simp only [Act.put, List.setIfInBounds_toArray, List.set_cons_zero, List.set_cons_succ]
        refine wpHz_taken 15 42 ?v39 (by kernel_rfl) (by kernel_rfl) (by kernel_rfl) (by kernel_rfl) (by kernel_rfl) (fun _ _ _ h => h) (by rfl) ?hy39 (by assumption) ?rest39
        case hy39 => intro w hSw; (try dsimp only at hSw); simp only [List.getElem?_toArray, List.getElem?_cons_zero, List.getElem?_cons_succ]; go_simp; (try with_reducible rfl)
        try simp only [Act.put, List.setIfInBounds_toArray, List.set_cons_zero, List.set_cons_succ]
        refine wpHz_taken 16 43 ?v40 (by kernel_rfl) (by kernel_rfl) (by kernel_rfl) (by kernel_rfl) (by kernel_rfl) (fun _ _ _ h => h) (by rfl) ?hy40 (by assumption) ?rest40
        case hy40 => intro w hSw; (try dsimp only at hSw); simp only [List.getElem?_toArray, List.getElem?_cons_zero, List.getElem?_cons_succ]; go_simp; (try with_reducible rfl)
        try simp only [Act.put, List.setIfInBounds_toArray, List.set_cons_zero, List.set_cons_succ]
        refine wpHz_taken 17 44 ?v41 (by kernel_rfl) (by kernel_rfl) (by kernel_rfl) (by kernel_rfl) (by kernel_rfl) (fun _ _ _ h => h) (by rfl) ?hy41 (by assumption) ?rest41
        case hy41 => intro w hSw; (try dsimp only at hSw); simp only [List.getElem?_toArray, List.getElem?_cons_zero, List.getElem?_cons_succ]; go_simp; (try with_reducible rfl)
        try simp only [Act.put, List.setIfInBounds_toArray, List.set_cons_zero, List.set_cons_succ]
        refine wpHz_taken 18 45 ?v42 (by kernel_rfl) (by kernel_rfl) (by kernel_rfl) (by kernel_rfl) (by kernel_rfl) (fun _ _ _ h => h) (by rfl) ?hy42 (by assumption) ?rest42
        case hy42 => intro w hSw; (try dsimp only at hSw); simp only [List.getElem?_toArray, List.getElem?_cons_zero, List.getElem?_cons_succ]; go_simp; (try with_reducible rfl)
        try simp only [Act.put, List.setIfInBounds_toArray, List.set_cons_zero, List.set_cons_succ]
        refine wpHz_taken 19 46 ?v43 (by kernel_rfl) (by kernel_rfl) (by kernel_rfl) (by kernel_rfl) (by kernel_rfl) (fun _ _ _ h => h) (by rfl) ?hy43 (by assumption) ?rest43
        case hy43 => intro w hSw; (try dsimp only at hSw); simp only [List.getElem?_toArray, List.getElem?_cons_zero, List.getElem?_cons_succ]; go_simp; (try with_reducible rfl)
        try simp only [Act.put, List.setIfInBounds_toArray, List.set_cons_zero, List.set_cons_succ]
        refine wpHz_taken 20 47 ?v44 (by kernel_rfl) (by kernel_rfl) (by kernel_rfl) (by kernel_rfl) (by kernel_rfl) (fun _ _ _ h => h) (by rfl) ?hy44 (by assumption) ?rest44
        case hy44 => intro w hSw; (try dsimp only at hSw); simp only [List.getElem?_toArray, List.getElem?_cons_zero, List.getElem?_cons_succ]; go_simp; (try with_reducible rfl)
        try simp only [Act.put, List.setIfInBounds_toArray, List.set_cons_zero, List.set_cons_succ]
        refine wpHz_taken 21 48 ?v45 (by kernel_rfl) (by kernel_rfl) (by kernel_rfl) (by kernel_rfl) (by kernel_rfl) (fun _ _ _ h => h) (by rfl) ?hy45 (by assumption) ?rest45
        case hy45 => intro w hSw; (try dsimp only at hSw); simp only [List.getElem?_toArray, List.getElem?_cons_zero, List.getElem?_cons_succ]; go_simp; (try with_reducible rfl)
        try simp only [Act.put, List.setIfInBounds_toArray, List.set_cons_zero, List.set_cons_succ]
        refine wpHz_taken 22 49 ?v46 (by kernel_rfl) (by kernel_rfl) (by kernel_rfl) (by kernel_rfl) (by kernel_rfl) (fun _ _ _ h => h) (by rfl) ?hy46 (by assumption) ?rest46
        case hy46 => intro w hSw; (try dsimp only at hSw); simp only [List.getElem?_toArray, List.getElem?_cons_zero, List.getElem?_cons_succ]; go_simp; (try with_reducible rfl)
        try simp only [Act.put, List.setIfInBounds_toArray, List.set_cons_zero, List.set_cons_succ]
        refine wpHz_one 23 (by kernel_rfl) (by rfl) (fun K hK => ?_)
        simp only [List.getElem?_toArray, List.getElem?_cons_zero, List.getElem?_cons_succ]
        go_simp
        rw [or_put z x d (v.testBit k) Hd.out hx8]
        refine hK.out _ _ (fun h => absurd rfl h) (fun _ => ?_)
        clear hK K
        try simp only [Act.put, List.setIfInBounds_toArray, List.set_cons_zero, List.set_cons_succ]
        refine wpHz_done (by kernel_rfl) ?_ _
        have hval : (bs2.map byteV).set y (.int .u8 (orBit z x (v.testBit k)).toNat) = (bs2.set y (orBit z x (v.testBit k))).map byteV := by
          rw [List.map_set]; rfl
        have hS8 := (Sat.sl_set hS7.swap y (by simpa using hyl) (.int .u8 (orBit z x (v.testBit k)).toNat)).drew
        rw [hval] at hS8
        obtain ⟨p0, p1, q0, q1⟩ := two_cells hS8.swap
        generalize (wr.setCell ⟨b2, o2 + y, none⟩ (.int .u8 (orBit z x (v.testBit k)).toNat)).drew = W9 at hS8 p0 p1 q0 q1 ⊢
        have hS9 := Sat.setCell (i := 1) hS8.swap (.int .i64 ((m : Int) + 1))
        have hbits9 := put_bit bs2 (l ++ low v k) (8 * bs2.length - m - 1) (v.testBit k) (by rw [Hbits2.out]; congr 2; rw [Hlen2.out]; omega) (by rw [← Hm.out, Hlen2.out]; omega)
        have hidx : ∀ (i : Nat) (hi : i < bs2.length), i = y → bs2[i] = z := by
          intro i hi e; subst e; exact Hz.out.symm
        have HW9 := Lib.hid hS9
        have Hbits9 := Lib.hid hbits9
        have Hidx := Lib.hid hidx
        clear hS7 hS8 hcy hfy e0 e1 hbit hval hbits9 hidx hS9
        go_wp2
        go_roundw
        case rel =>
          refine ⟨k + 1, q / 2, by omega, Hq2.out, by omega, vi (by omega), by go_num, ?_⟩
          refine Hfin.out _ (.slice (some ⟨b2, o2, none⟩) bs2.length cap2) (bs2.set y (orBit z x (v.testBit k))) (by rw [List.length_set, Hlen2.out]; omega) ?_ ?_
          · have h1 := Hbits9.out
            rw [Hidx.out _ _ (by rw [← Hm.out, Hy.out])] at h1
            rw [← Hm.out, ← Hx.out, ← Hy.out] at h1
            rw [h1, List.length_set, low_succ, Nat.sub_sub]; simp only [List.append_assoc]
          · rw [List.length_set]
            exact HW9.out
        case measure => simp [intOf]; omega
    · obtain rfl : k = n := by omega
      have hd : decide (k < k) = false := by simp
      go_wp2
      go_end0
      exact ⟨rfl, hS1⟩

set_option maxRecDepth 100000 in
set_option maxHeartbeats 400000 in
/-- The bytes. -/
theorem out_wrt {w : World} {r : Nat} {l : List Bool} {Rs : List Res} (hS : Sat w (wrt r l :: Rs)) (hl : l.length ≤ 1099511627776) :
    Calls Try.prog 31 #[.pointer (some ⟨r, 0, none⟩)] w fun e w' => ∃ (v : Value) (bs : List UInt8), e = .returned v ∧ bs.length = (l.length + 7) / 8 ∧ bitsOf bs = l ++ List.replicate (8 * bs.length - l.length) false ∧ Sat w' (sl 5 1 bs.length v (bs.map byteV) :: wrt r l :: Rs) := by
  obtain ⟨v0, bs, h, h1, h2⟩ := wrt_open hS
  have hA := h.alloc_drop (.cells #[] 5)
  obtain ⟨c0, c1, -, -⟩ := two_cells hA
  obtain ⟨F, ao, cap, rfl, -, -, -, -⟩ := h.at_ 1 _ rfl
  have hb : bs.length ≤ 137438953480 := by omega
  have hsrc := SlR.src (P := Try.prog) (hA.front 1 _ rfl).sl_read Try.underlying43 (byteV_one bs)
  have Hsrc := Lib.hid hsrc
  have H1 := Lib.hid h1
  have H2 := Lib.hid h2
  have hn := hA.sl_nil 5 1 (some ⟨w.heap.size, 0, none⟩)
  obtain ⟨i0, hi, hz0, hz1, hz2⟩ := info_parts Try.infoU8
  clear hsrc h1 h2
  go_enter Try.func31, Try.ntmps31
  go_wp2_with (at_builtin; refine wpList_append_sat _ rfl _ _ 43 43 rfl 5 i0 (.int .u8 0) 1 1 Try.underlying43 hi hz0 hz1 hz2 rfl (by decide) 0 _ _ _ rfl hn bs.length _ _ rfl Hsrc.out ?_ ?_ ?_)
  · unfold maxLen; omega
  · omega
  · intro v' w' hS'
    go_wp2
    go_ret
    refine ⟨v', bs, rfl, H1.out, H2.out, ?_⟩
    have h3 := Sat.perm (As := [_, _, _]) hS' [1, 2, 0] [_, _, _] rfl (by simp)
    exact (wrt_shut (v := .slice ao bs.length cap) (bs := bs) h3 H1.out H2.out).swap

end Go.Proofs.Ytobkmkdnkdbgeaa
