/- Adler-32: the program's and the document's. -/
import Derived.Test.YtdpocnkeokplpaaQb
import Derived.Deep.CutRange
import Derived.OwnWalk
import Derived.Handy
namespace Go.Proofs.Ytdpocnkeokplpaa
open Go.RowKit Go.Hal
set_option linter.unusedVariables false
set_option linter.unusedSimpArgs false

def adStep (p : Nat × Nat) (c : UInt8) : Nat × Nat := ((p.1 + c.toNat) % 65521, (p.2 + (p.1 + c.toNat) % 65521) % 65521)
def adl (p : Nat × Nat) (l : List UInt8) : Nat × Nat := l.foldl adStep p
def adV (p : Nat × Nat) : Nat := p.2 * 65536 + p.1
def AdOk (p : Nat × Nat) : Prop := p.1 < 65521 ∧ p.2 < 65521
theorem adl_app (p : Nat × Nat) (a b : List UInt8) : adl p (a ++ b) = adl (adl p a) b := by simp [adl]
theorem adl_ok {p : Nat × Nat} (h : AdOk p) (l : List UInt8) : AdOk (adl p l) := by
  have : ∀ (l : List UInt8) (p : Nat × Nat), AdOk p → AdOk (l.foldl adStep p) := by
    intro l
    induction l with
    | nil => exact fun p h => h
    | cons c r ih => exact fun p h => ih _ ⟨Nat.mod_lt _ (by omega), Nat.mod_lt _ (by omega)⟩
  exact this l p h
theorem adl_succ (p : Nat × Nat) (l : List UInt8) (k : Nat) (h : k < l.length) : adl p (l.take (k + 1)) = adStep (adl p (l.take k)) l[k] := by
  rw [List.take_succ_eq_append_getElem h, adl_app]; rfl
def tB (i : Nat) : Nat := 65520 + 65520 * i + 255 * (i * (i + 1) / 2)
theorem tri_succ (i : Nat) : (i + 1) * (i + 1 + 1) / 2 = i * (i + 1) / 2 + (i + 1) := by
  have e : (i + 1) * (i + 1 + 1) = i * (i + 1) + (i + 1) * 2 := by rw [Nat.mul_comm i, ← Nat.mul_add, Nat.add_assoc]
  rw [e, Nat.add_mul_div_right _ _ (by omega)]
theorem tB_succ (i : Nat) : tB (i + 1) = tB i + 65520 + 255 * (i + 1) := by unfold tB; rw [tri_succ]; omega
theorem tB_le (i : Nat) (h : i ≤ 5000) : tB i ≤ 4294967295 := by
  have h1 : i * (i + 1) ≤ 5000 * 5001 := Nat.mul_le_mul h (by omega)
  unfold tB; omega

theorem mask16 (V : Nat) (h : V < 4294967296) : bits .and .u32 (V : Int) 65535 = ((V % 65536 : Nat) : Int) := by
  have h := bits_mask .u32 32 (by decide) wraps_u32 16 (by decide) (V : Int) (by omega) (by omega)
  rw [show (2 : Int) ^ 16 - 1 = 65535 from rfl] at h
  rw [h]; rfl
theorem or16 (t q : Nat) (ht : t < 65521) (hq : q < 65521) : bits .or .u32 ((t : Int) * 65536) (q : Int) = ((t * 65536 + q : Nat) : Int) := by
  have h := (bits_nat .u32 32 (by decide) wraps_u32 (t * 65536) q (by omega) (by omega)).2
  rw [show ((t : Int) * 65536) = ((t * 65536 : Nat) : Int) by simp, h]
  have h2 := Nat.two_pow_add_eq_or_of_lt (i := 16) (b := q) (by omega) t
  rw [Nat.mul_comm t 65536]
  congr 1
  exact h2.symm

theorem sl_hd {w : World} {ao : Option Addr} {n cap : Nat} {xs : List Value} (h : SlR w 5 1 n (.slice ao n cap) xs) (k : Nat) (hk : k ≤ n) : SlR w 5 1 k (.slice ao k cap) (xs.take k) := by
  obtain ⟨ao', cap', heq, k1, k2, k3, k4⟩ := h
  simp only [Value.slice.injEq, true_and] at heq
  obtain ⟨rfl, rfl⟩ := heq
  refine ⟨_, _, rfl, by omega, k2, by rw [List.length_take]; omega, fun h0 => ?_⟩
  obtain ⟨b', o', he, hb, hc⟩ := k4 (by omega)
  refine ⟨b', o', he, hb, fun j u hu => hc j u ?_⟩
  rw [List.getElem?_take] at hu
  split at hu
  · exact hu
  · cases hu
theorem sl_tl {w : World} {ao : Option Addr} {n cap : Nat} {xs : List Value} (h : SlR w 5 1 n (.slice ao n cap) xs) (k : Nat) (hk : k ≤ n) :
    SlR w 5 1 (n - k) (.slice (if cap = k then ao else Option.map (fun x => x.add k) ao) (n - k) (cap - k)) (xs.drop k) := by
  obtain ⟨ao', cap', heq, k1, k2, k3, k4⟩ := h
  simp only [Value.slice.injEq, true_and] at heq
  obtain ⟨rfl, rfl⟩ := heq
  refine ⟨_, _, rfl, by omega, by omega, by rw [List.length_drop]; omega, fun h0 => ?_⟩
  obtain ⟨b', o', rfl, hb, hc⟩ := k4 (by omega)
  refine ⟨b', o' + k, ?_, hb, fun j u hu => ?_⟩
  · rw [if_neg (by omega)]
    show some (Addr.add _ k) = _
    rw [Addr.add_lit]
  · rw [List.getElem?_drop] at hu
    have := hc _ u hu
    rw [← Nat.add_assoc] at this
    exact this

set_option maxRecDepth 100000 in
set_option maxHeartbeats 4000000 in
theorem more_any {w : World} {v : Value} {bs : List UInt8} (hv : SlR w 5 1 bs.length v (bs.map byteV)) (p : Nat × Nat) (hp : AdOk p) (hl : bs.length ≤ 1073741824) :
    Calls Try.prog 66 #[.int .u32 (adV p : Nat), v] w fun e w' => e = .returned (.int .u32 (adV (adl p bs) : Nat)) ∧ ∃ n, w' = w.drewN n := by
  obtain ⟨q, t, rfl⟩ : ∃ q t, p = (q, t) := ⟨p.1, p.2, rfl⟩
  obtain ⟨hq, ht⟩ := hp
  simp only at hq ht
  obtain ⟨V, HV⟩ : ∃ V, Hid (V = adV (q, t)) := ⟨_, Lib.hid rfl⟩
  have hVb : V < 4294967296 := by rw [HV.out]; unfold adV; simp only; omega
  have hV1 : V % 65536 = q := by rw [HV.out]; unfold adV; simp only; omega
  have hV2 : V / 65536 = t := by rw [HV.out]; unfold adV; simp only; omega
  rw [← HV.out]
  have hm1 : bits .and .u32 (V : Int) 65535 = (q : Int) := by rw [mask16 V hVb, hV1]
  have hm2 : Int.tmod (q : Int) 65521 = (q : Int) := by rw [Int.tmod_eq_emod_of_nonneg (by omega)]; omega
  have hm3 : (V : Int) / 65536 % 65521 = (t : Int) := by omega
  obtain ⟨ao, cap, rfl, hle, hcm, -, -⟩ := id hv
  have Hv := Lib.hid hv
  have HV2 := Lib.hid hV2
  clear hv hV1 hV2 hle hcm
  go_enter Try.func66, Try.ntmps66
  go_wp2
  clear hm1 hm2 hm3
  go_loopg [1, 5, 6] (bs.length + 1) (fun g bv sv tv wr => ∃ (a r : List UInt8) (x y n : Nat), r.length + 1 ≤ g ∧ r.length ≤ bs.length ∧ Hid (bs = a ++ r) ∧ Hid ((x, y) = adl (q, t) a) ∧ x < 65521 ∧ y < 65521 ∧ sv = .int .u32 x ∧ tv = .int .u32 y ∧ Hid (SlR w 5 1 r.length bv (r.map byteV)) ∧ wr = w.drewN n)
  case atStart => exact ⟨[], bs, q, t, 0, Nat.le_refl _, Nat.le_refl _, rfl, rfl, hq, ht, rfl, vi (by have := HV2.out; omega), Hv.out, rfl⟩
  case round =>
    obtain ⟨a, r, x, y, n, hg, hrb, Hab, Hxy, hx, hy, rfl, rfl, Hr, rfl⟩ := hrel
    obtain ⟨ro, rcap, rfl, hrle, hrm, -, -⟩ := id Hr.out
    unfold maxLen at hrm
    by_cases hr0 : 0 < r.length
    · have hd : decide ((0 : Int) < (r.length : Int)) = true := decide_eq_true (by omega)
      have hd' : decide (0 < r.length) = true := decide_eq_true hr0
      obtain ⟨N, hN⟩ : ∃ N : Nat, min (r.length : Int) 5000 = (N : Int) := ⟨min r.length 5000, by omega⟩
      have hN1 : N ≤ r.length := by omega
      have hN2 : N ≤ 5000 := by omega
      have hN0 : 0 < N := by omega
      have hNc : N ≤ rcap := by omega
      have Hh := Lib.hid (sl_hd Hr.out N hN1)
      have Ht := Lib.hid (sl_tl Hr.out N hN1)
      have HrL : Hid (r.length ≤ 1073741824) := by unfold Hid; omega
      clear Hr
      go_upto_region 3 with (fail)
      go_cut [7] from 16 to 44 (fun s7 wx => s7 = .int .i64 N ∧ wx = w.drewN n)
      case first =>
        go_wp2
        all_goals first
          | (exfalso; omega)
          | (go_meet
             exact ⟨vi (by omega), rfl⟩)
      obtain ⟨rfl, rfl⟩ := hcut
      go_wp2
      go_loopw [5, 6, 26] (fun sv tv iv wr => ∃ (i x2 y2 : Nat), i ≤ N ∧ iv = .int .i64 i ∧ sv = .int .u32 x2 ∧ tv = .int .u32 y2 ∧ Hid ((x2 % 65521, y2 % 65521) = adl (q, t) (a ++ r.take i)) ∧ x2 ≤ 65520 + 255 * i ∧ Hid (y2 ≤ tB i) ∧ wr = w.drewN n) (fun _ _ iv _ => N - (intOf iv).toNat)
      case atStart => exact ⟨0, x, y, by omega, rfl, rfl, rfl, by unfold Hid; rw [List.take_zero, List.append_nil, ← Hxy.out, Nat.mod_eq_of_lt hx, Nat.mod_eq_of_lt hy], by omega, by unfold Hid tB; omega, rfl⟩
      case round =>
        obtain ⟨i, x2, y2, hi, rfl, rfl, rfl, Hs2, hx2, Hy2, rfl⟩ := hrel
        by_cases hlt : i < N
        · have hd2 : decide ((i : Int) < (N : Int)) = true := decide_eq_true (by omega)
          have hir : i < r.length := by omega
          obtain ⟨a9, c9, he9, -, -, -, hb9⟩ := id Hh.out
          simp only [Value.slice.injEq, true_and] at he9
          obtain ⟨rfl, rfl⟩ := he9
          obtain ⟨b9, o9, rfl, -, hc9⟩ := hb9 (by omega)
          obtain ⟨c, Hc⟩ : ∃ c : UInt8, Hid (r[i] = c) := ⟨_, Lib.hid rfl⟩
          have hcell : (w.drewN n).cell? ⟨b9, o9 + i, none⟩ = some (.int .u8 c.toNat) := hc9 i _ (by rw [List.getElem?_take, if_pos hlt, List.getElem?_map, List.getElem?_eq_getElem hir, Hc.out]; rfl)
          obtain ⟨cn, Hcn⟩ : ∃ cn, Hid (cn = c.toNat) := ⟨_, Lib.hid rfl⟩
          have hcb : cn < 256 := by rw [Hcn.out]; exact c.toNat_lt
          rw [← Hcn.out] at hcell
          have hyB : y2 + (x2 + cn) ≤ 4294967295 := by
            have h1 := Hy2.out
            have h2 := tB_succ i
            have h3 := tB_le (i + 1) (by omega)
            omega
          have Hy3 : Hid (y2 + (x2 + cn) ≤ tB (i + 1)) := by
            have h1 := Hy2.out
            have h2 := tB_succ i
            unfold Hid; omega
          have Hs3 : Hid (((x2 + cn) % 65521, (y2 + (x2 + cn)) % 65521) = adl (q, t) (a ++ r.take (i + 1))) := by
            unfold Hid
            rw [List.take_succ_eq_append_getElem hir, ← List.append_assoc, adl_app, ← Hs2.out, Hc.out]
            show _ = adStep _ c
            unfold adStep
            simp only
            rw [← Hcn.out]
            refine Prod.ext ?_ ?_ <;> simp only <;> omega
          clear hc9 hb9
          go_wp2
          exact ⟨⟨i + 1, x2 + cn, y2 + (x2 + cn), by omega, by go_num, by go_num, by go_num, Hs3.out, by omega, Hy3.out, trivial⟩, by simp [intOf]; omega⟩
        · have hd2 : decide ((i : Int) < (N : Int)) = false := decide_eq_false (by omega)
          obtain rfl : i = N := by omega
          have htm1 : Int.tmod (x2 : Int) 65521 = ((x2 % 65521 : Nat) : Int) := by rw [Int.tmod_eq_emod_of_nonneg (by omega)]; omega
          have htm2 : Int.tmod (y2 : Int) 65521 = ((y2 % 65521 : Nat) : Int) := by rw [Int.tmod_eq_emod_of_nonneg (by omega)]; omega
          have hwi : IntKind.i64.wrap (i : Int) = i := i64_id _ (by omega) (by omega)
          have hi0 : (0 : Int) ≤ (i : Int) := by omega
          have hi1 : (i : Int) ≤ (r.length : Int) := by omega
          have Hn2 : Hid (bs = (a ++ r.take i) ++ r.drop i) := by unfold Hid; rw [List.append_assoc, List.take_append_drop]; exact Hab.out
          have Hld : Hid ((r.drop i).length = r.length - i) := by unfold Hid; rw [List.length_drop]
          obtain ⟨xm, Hxm⟩ : ∃ xm, Hid (xm = x2 % 65521) := ⟨_, Lib.hid rfl⟩
          obtain ⟨ym, Hym⟩ : ∃ ym, Hid (ym = y2 % 65521) := ⟨_, Lib.hid rfl⟩
          have hxm : xm < 65521 := by rw [Hxm.out]; exact Nat.mod_lt _ (by omega)
          have hym : ym < 65521 := by rw [Hym.out]; exact Nat.mod_lt _ (by omega)
          rw [← Hxm.out] at htm1 Hs2
          rw [← Hym.out] at htm2 Hs2
          by_cases hcn : rcap = i
          · have Ht2 : Hid (SlR w 5 1 (r.drop i).length (.slice ro (r.length - i) 0) ((r.drop i).map byteV)) := by
              have h := Ht.out
              rw [if_pos hcn, hcn, Nat.sub_self] at h
              unfold Hid; rw [Hld.out, List.map_drop]; exact h
            go_wp2_with fail
            go_quiet (fail)
            go_wp2
            go_roundg (r.length - i + 1)
            case measure => omega
            case rel => exact ⟨a ++ r.take i, r.drop i, xm, ym, n + nq, by rw [Hld.out]; exact Nat.le_refl _, by rw [Hld.out]; omega, Hn2.out, Hs2.out, hxm, hym, rfl, rfl, Ht2.out, by simp [World.drewN, Nat.add_assoc]⟩
          · have Ht2 : Hid (SlR w 5 1 (r.drop i).length (.slice (Option.map (fun x => x.add i) ro) (r.length - i) (rcap - i)) ((r.drop i).map byteV)) := by
              have h := Ht.out
              rw [if_neg hcn] at h
              unfold Hid; rw [Hld.out, List.map_drop]; exact h
            go_wp2_with fail
            go_quiet (fail)
            go_wp2
            go_roundg (r.length - i + 1)
            case measure => omega
            case rel => exact ⟨a ++ r.take i, r.drop i, xm, ym, n + nq, by rw [Hld.out]; exact Nat.le_refl _, by rw [Hld.out]; omega, Hn2.out, Hs2.out, hxm, hym, rfl, rfl, Ht2.out, by simp [World.drewN, Nat.add_assoc]⟩
    · have hd : decide ((0 : Int) < (r.length : Int)) = false := decide_eq_false (by omega)
      have hd' : decide (0 < r.length) = false := decide_eq_false hr0
      have hrn : r = [] := List.length_eq_zero_iff.1 (by omega)
      have hfin : adV (adl (q, t) bs) = y * 65536 + x := by rw [Hab.out, hrn, List.append_nil, ← Hxy.out]; rfl
      have Hfin := Lib.hid hfin
      have hor := or16 y x hy hx
      clear hrn hfin
      go_wp2
      go_ret
      exact ⟨by rw [Hfin.out]; simp, n, rfl⟩

theorem adOf_any {w : World} {v : Value} {bs : List UInt8} (hv : SlR w 5 1 bs.length v (bs.map byteV)) (hl : bs.length ≤ 1073741824) :
    Calls Try.prog 62 #[v] w fun e w' => e = .returned (.int .u32 (adV (adl (1, 0) bs) : Nat)) ∧ ∃ n, w' = w.drewN n := by
  have h := more_any hv (1, 0) ⟨by decide, by decide⟩ hl
  rw [show ((adV (1, 0) : Nat) : Int) = 1 from rfl] at h
  have H := Lib.hid h
  obtain ⟨ao, cap, rfl, -, -, -, -⟩ := hv
  clear h
  go_enter Try.func62, Try.ntmps62
  go_wp2_with (go_at_call 66; refine H.out.mono ?_; rintro e w1 ⟨rfl, n, rfl⟩)
  go_ret
  exact ⟨rfl, n, rfl⟩

end Go.Proofs.Ytdpocnkeokplpaa
