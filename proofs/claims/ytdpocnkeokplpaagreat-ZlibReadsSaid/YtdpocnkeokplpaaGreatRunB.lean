/- Bits as bytes again; what stands behind a run's end. -/
import Derived.Test.YtdpocnkeokplpaaGreatRunQ
import Derived.Test.YtdpocnkeokplpaaGreatRunO
import Derived.Test.YtdpocnkeokplpaaGreatRunF
namespace Go.Proofs.YtdpocnkeokplpaaGreat
open Go.RowKit Go.Hal
set_option linter.unusedVariables false
set_option linter.unusedSimpArgs false

theorem SlR.part {w : World} {e : TypeId} {ao : Option Addr} {n cap : Nat} {xs : List Value} (h : SlR w e 1 n (.slice ao n cap) xs) (k m : Nat) (hk : k + m ≤ n) (hm : 0 < m) :
    SlR w e 1 m (.slice (Option.map (fun x => x.add k) ao) m (cap - k)) ((xs.drop k).take m) := by
  obtain ⟨ao', cap', heq, k1, k2, k3, k4⟩ := h
  simp only [Value.slice.injEq, true_and] at heq
  obtain ⟨rfl, rfl⟩ := heq
  refine ⟨_, _, rfl, by omega, by omega, by rw [List.length_take, List.length_drop]; omega, fun h0 => ?_⟩
  obtain ⟨b', o', rfl, hb, hc⟩ := k4 (by omega)
  refine ⟨b', o' + k, ?_, hb, fun j u hu => ?_⟩
  · show some (Addr.add _ k) = _
    rw [Addr.add_lit]
  · rw [List.getElem?_take] at hu
    split at hu
    · rw [List.getElem?_drop] at hu
      have := hc _ u hu
      rw [← Nat.add_assoc] at this
      exact this
    · cases hu

theorem bits_at (rs : List UInt8) (k : Nat) (hk : k < rs.length) : ((bitsOf rs).drop (8 * k)).take 8 = byteBits rs[k] := by
  rw [bitsOf_drop, List.drop_eq_getElem_cons hk, bitsOf_cons, List.take_append_of_le_length (by simp), List.take_of_length_le (by simp)]

set_option maxRecDepth 100000 in
set_option maxHeartbeats 2000000 in
theorem bytes_ref {w : World} {Rs : List Res} (hS : Sat w Rs) (v : Value) (rs : List UInt8) (hv : ∀ w', Sat w' Rs → IntsR w' v (bitsI (bitsOf rs))) (hb : rs.length ≤ 4194304) :
    Calls Tryz.prog 20 #[v] w fun e' w' => ∃ ov, e' = .returned ov ∧ Sat w' (sl 5 1 rs.length ov (rs.map byteV) :: Rs) := by
  obtain ⟨NN, HNN⟩ : ∃ NN, Hid (NN = 8 * rs.length) := ⟨_, Lib.hid rfl⟩
  have hlen : (bitsI (bitsOf rs)).length = NN := by rw [HNN.out]; simp [bitsI]
  obtain ⟨ao, cap, heq, hle, hcm, -, -⟩ := hv w hS
  rw [hlen] at heq hle
  subst heq
  unfold maxLen at hcm
  have hNb : NN ≤ 33554432 := by rw [HNN.out]; omega
  have Hv : Hid (∀ w', Sat w' Rs → SlR w' 3 1 NN (.slice ao NN cap) ((bitsI (bitsOf rs)).map intV)) := by
    intro w' h'
    have h := hv w' h'
    unfold IntsR at h
    rw [hlen] at h
    exact h
  obtain ⟨i0, hi, hz0, hz1, hz2⟩ := info_parts Tryz.infoU8
  have Hb := Lib.hid hb
  clear hv hlen hb
  go_enter Tryz.func20, Tryz.ntmps20
  go_wp2
  go_loopw [3, 4] (fun v i wr => ∃ (k q : Nat), Hid (q = 8 * k) ∧ q ≤ NN ∧ i = .int .i64 q ∧ Sat wr (sl 5 1 (rs.take k).length v ((rs.take k).map byteV) :: Rs)) (fun _ i _ => NN - (intOf i).toNat)
  case atStart => exact ⟨0, 0, rfl, by omega, rfl, by simpa using hS.sl_nil 5 1 none⟩
  case round =>
    obtain ⟨k, q, Hq, hq, rfl, hS1⟩ := hrel
    by_cases hlt : q < NN
    · have hd : decide (q < NN) = true := decide_eq_true hlt
      have hk : k < rs.length := by have := Hq.out; have := HNN.out; omega
      have hq8 : q + 8 ≤ NN := by have := Hq.out; have := HNN.out; omega
      have hne : ¬ cap = q := by omega
      have hcap : q + 8 ≤ cap := by omega
      have hint : IntsR wr (.slice (Option.map (fun x => x.add q) ao) 8 (cap - q)) (bitsI (byteBits rs[k])) := by
        have h1 := SlR.part (Hv.out wr hS1.tail) q 8 hq8 (by omega)
        have e1 : (((bitsI (bitsOf rs)).map intV).drop q).take 8 = (bitsI (byteBits rs[k])).map intV := by
          rw [← bits_at rs k hk, ← Hq.out]
          simp [bitsI, List.map_drop, List.map_take]
        rw [e1] at h1
        unfold IntsR
        rw [show (bitsI (byteBits rs[k])).length = 8 by simp [bitsI]]
        exact h1
      have hao : ∃ ob off, ao = some ⟨ob, off, none⟩ := by
        obtain ⟨a2, c2, heq, -, -, -, h4⟩ := Hv.out wr hS1.tail
        simp only [Value.slice.injEq, true_and] at heq
        obtain ⟨rfl, rfl⟩ := heq
        obtain ⟨ob, off, rfl, -⟩ := h4 (by omega)
        exact ⟨ob, off, rfl⟩
      obtain ⟨ob, off, rfl⟩ := hao
      rw [show Option.map (fun x : Addr => x.add q) (some ⟨ob, off, none⟩) = some ⟨ob, off + q, none⟩ by show some (Addr.add _ q) = _; rw [Addr.add_lit]] at hint
      obtain ⟨c, Hc⟩ : ∃ c : UInt8, Hid (c = rs[k]) := ⟨_, Lib.hid rfl⟩
      have Hnum := number_any _ (byteBits rs[k]) wr (by simp) hint
      rw [num_byteBits, ← Hc.out] at Hnum
      have HNm := Lib.hid Hnum
      have hc256 : c.toNat < 256 := c.toNat_lt
      obtain ⟨cn, Hcn⟩ : ∃ cn, Hid (cn = c.toNat) := ⟨_, Lib.hid rfl⟩
      rw [← Hcn.out] at HNm hc256
      obtain ⟨_, oo, oap, rfl, -, -, -, -⟩ := hS1.at_ 0 _ rfl
      have hA := hS1.sl_made (e := 5) (size := 1) (n := 1) (cap := 1) (cur := #[.int .u8 (cn : Nat)]) (xs := [.int .u8 (cn : Nat)]) (by omega) (by decide) rfl (by simp) (fun j u hu => by simpa using hu)
      have Hsrc := Lib.hid (SlR.src (P := Tryz.prog) hA.sl_read Tryz.underlying22 (by simp [Value.oneCell']))
      have HA2 := Lib.hid (Sat.perm (As := [_, _]) hA [1] [_] rfl (by simp))
      have hkl : (rs.take k).length = k := by rw [List.length_take]; omega
      obtain ⟨rk, Hrk⟩ : ∃ rk, Hid (rs.take k = rk) := ⟨_, Lib.hid rfl⟩
      rw [Hrk.out] at HA2 hkl
      have Hkl := Lib.hid hkl
      have hrkl : rk.length ≤ 4194304 := by rw [hkl]; have := Hb.out; omega
      rw [Hrk.out]
      clear hA hS1 Hnum hint hkl
      go_wp2_with (first
        | (go_at_call 50; refine HNm.out.mono ?_; rintro e w2 ⟨rfl, rfl⟩; clear HNm)
        | (at_builtin; refine wpList_append_sat _ rfl _ _ 22 22 rfl 5 i0 (.int .u8 0) 1 1 Tryz.underlying22 hi hz0 hz1 hz2 rfl (by decide) rk.length _ _ _ rfl HA2.out 1 _ _ rfl Hsrc.out (by unfold maxLen; omega) (by omega) ?_; intro v' w' hS7; obtain ⟨_, jo2, jap2, rfl, -, -, -, -⟩ := hS7.at_ 0 _ rfl; have H7 := Lib.hid hS7; clear hS7 Hsrc HA2))
      go_roundw
      case rel =>
        refine ⟨k + 1, q + 8, by have := Hq.out; unfold Hid; omega, by omega, by go_num, ?_⟩
        rw [List.take_succ_eq_append_getElem hk, Hrk.out, ← Hc.out, List.length_append, List.map_append, List.length_singleton]
        have h := H7.out
        rw [Hcn.out] at h
        exact h
      case measure => simp [intOf]; omega
    · have hd : decide (q < NN) = false := decide_eq_false hlt
      have hk : rs.length ≤ k := by have := Hq.out; have := HNN.out; omega
      rw [List.take_of_length_le hk] at hS1
      obtain ⟨_, oo, oap, rfl, -, -, -, -⟩ := hS1.at_ 0 _ rfl
      have HS1 := Lib.hid hS1
      clear hS1
      go_wp2
      go_ret
      exact ⟨_, rfl, HS1.out⟩

end Go.Proofs.YtdpocnkeokplpaaGreat
