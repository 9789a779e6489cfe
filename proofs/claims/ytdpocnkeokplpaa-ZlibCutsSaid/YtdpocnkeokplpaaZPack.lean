/- deflate.Pack of the stored way; zlib.Pack. -/
import Derived.Test.YtdpocnkeokplpaaSto
import Derived.Test.YtdpocnkeokplpaaPutB
namespace Go.Proofs.Ytdpocnkeokplpaa
open Go.RowKit Go.Hal
set_option linter.unusedVariables false
set_option linter.unusedSimpArgs false

theorem chunkB_8 (l : List Bool) (e : Nat) (t : List UInt8) : (chunkB l e t).length % 8 = 0 := by
  unfold chunkB
  rw [List.length_append, List.length_append, low_length, alignB_len, bitsOf_length]
  omega
theorem storeB_8 (last : Nat) : ∀ (K : Nat) (l : List Bool) (b : List UInt8), 0 < K → b.length < 65535 * K → (storeB last K l b).length % 8 = 0
  | 0, l, b, h, _ => absurd h (by omega)
  | k + 1, l, b, _, h => by
    unfold storeB
    by_cases hb : b.length ≤ 65535
    · rw [if_pos hb]; exact chunkB_8 _ _ _
    · rw [if_neg hb]
      exact storeB_8 last k _ _ (by omega) (by rw [List.length_drop]; omega)
theorem storeB_len (last : Nat) : ∀ (K : Nat) (l : List Bool) (b : List UInt8), (storeB last K l b).length ≤ l.length + 16 * b.length + 64
  | 0, l, b => by unfold storeB; omega
  | k + 1, l, b => by
    unfold storeB
    by_cases hb : b.length ≤ 65535
    · rw [if_pos hb]; have := chunkB_len l last b; omega
    · rw [if_neg hb]
      have h1 := storeB_len last k (chunkB l 0 (b.take 65535)) (b.drop 65535)
      have h2 := chunkB_len l 0 (b.take 65535)
      rw [List.length_drop] at h1
      rw [List.length_take] at h2
      omega
set_option maxRecDepth 100000 in
set_option maxHeartbeats 2000000 in
/-- Bytes that are stored. -/
theorem pack0_any {w : World} {K : Nat} {Rs : List Res} (hS : Sat w Rs) {v : Value} {b : List UInt8} (hv : ∀ w', Sat w' Rs → SlR w' 5 1 b.length v (b.map byteV)) (hK : b.length < 65535 * K) (hb : b.length ≤ 4294967296) :
    Calls Try.prog 14 #[v, .int .i64 0] w fun e w' => ∃ ov out, e = .returned (.tuple #[ov, .int .i64 0]) ∧ bitsOf out = storeB 1 K [] b ∧ Sat w' (sl 5 1 out.length ov (out.map byteV) :: Rs) := by
  have Hn := Lib.hid (newWriter_any hS)
  obtain ⟨ao, cap, rfl, -, -, -, -⟩ := hv w hS
  have Hv := Lib.hid hv
  have HK := Lib.hid hK
  have Hb := Lib.hid hb
  clear hS hv hK hb
  go_enter Try.func14, Try.ntmps14
  go_wp2_with (first
    | (go_at_call 30; (with_reducible refine Hn.out.mono ?_); rintro e' w1 ⟨r, rfl, hS1⟩; have hs := store_any (last := 1) hS1 Hv.out (by omega) HK.out (by have := Hb.out; rw [List.length_nil]; omega); rw [show ((1 : Nat) : Int) = 1 from rfl] at hs; have Hs := Lib.hid hs; clear hs hS1 Hn Hv)
    | (go_at_call 31; (with_reducible refine Hs.out.mono ?_); rintro e' w2 ⟨rfl, hS2⟩; have Ho := Lib.hid (out_wrt hS2 (by have h1 := storeB_len 1 K [] b; rw [List.length_nil] at h1; have := Hb.out; omega)); clear hS2 Hs)
    | (go_at_call 32; (with_reducible refine Ho.out.mono ?_); rintro e' w3 ⟨ov, bs, rfl, h1, h2, hS3⟩; have H1 := Lib.hid h1; have H2 := Lib.hid h2; have HS3 := Lib.hid hS3; clear h1 h2 hS3 Ho))
  go_ret2
  refine ⟨ov, bs, rfl, ?_, Sat.perm (As := [_, _]) HS3.out [0] [_] rfl (by simp)⟩
  rw [H2.out]
  have h8 := storeB_8 1 K [] b (by have := HK.out; omega) HK.out
  rw [show 8 * bs.length - (storeB 1 K [] b).length = 0 by rw [H1.out]; omega, List.replicate_zero, List.append_nil]

/-- zlib's head. -/
def zhead (how : Nat) : List UInt8 := match how with | 0 => [120, 1] | 1 => [120, 94] | 2 => [120, 156] | _ => [120, 218]
def zwrap (how : Nat) (p b : List UInt8) : List UInt8 := zhead how ++ p ++ be4 (adV (adl (1, 0) b))
theorem zhead_be (how : Nat) (h : how ≤ 3) : be2 (30720 + 64 * how + (30 - (30720 + 64 * how + 30) % 31)) = zhead how := by
  rcases (show how = 0 ∨ how = 1 ∨ how = 2 ∨ how = 3 by omega) with rfl | rfl | rfl | rfl <;> decide
theorem zhead_len (how : Nat) : (zhead how).length = 2 := by unfold zhead; split <;> rfl

set_option maxRecDepth 100000 in
set_option maxHeartbeats 2000000 in
/-- zlib.Pack, when deflate.Pack is known. -/
theorem zpack_any {w : World} {how : Nat} {P : List UInt8 → Prop} {Rs : List Res} (hS : Sat w Rs) {v : Value} {b : List UInt8} (hv : ∀ w', Sat w' Rs → SlR w' 5 1 b.length v (b.map byteV)) (hh : how ≤ 3) (hb : b.length ≤ 1073741824)
    (hp : Calls Try.prog 14 #[v, .int .i64 how] w fun e w' => ∃ ov out, e = .returned (.tuple #[ov, .int .i64 0]) ∧ (P out ∧ out.length ≤ 1099511627776) ∧ Sat w' (sl 5 1 out.length ov (out.map byteV) :: Rs)) :
    Calls Try.prog 24 #[v, .int .i64 how] w fun e w' => ∃ ov out, e = .returned (.tuple #[ov, .int .i64 0]) ∧ P out ∧ Sat w' (sl 5 1 (zwrap how out b).length ov ((zwrap how out b).map byteV) :: Rs) := by
  obtain ⟨ao, cap, rfl, -, -, -, -⟩ := hv w hS
  have Hv := Lib.hid hv
  have Hp := Lib.hid hp
  have Hb := Lib.hid hb
  have Hz := Lib.hid (zhead_be how hh)
  obtain ⟨V, HV⟩ : ∃ V : Nat, Hid (V = 30720 + 64 * how) := ⟨_, Lib.hid rfl⟩
  have hsh : bits .or .i64 30720 ((how : Int) * 64) = (V : Int) := by
    rw [HV.out]
    rcases (show how = 0 ∨ how = 1 ∨ how = 2 ∨ how = 3 by omega) with rfl | rfl | rfl | rfl <;> decide
  have hVb : V < 65536 := by rw [HV.out]; omega
  rw [← HV.out] at Hz
  obtain ⟨Z, HZ⟩ : ∃ Z : Nat, Hid (Z = V + (30 - (V + 30) % 31)) := ⟨_, Lib.hid rfl⟩
  rw [← HZ.out] at Hz
  have hZ : (V : Int) + (30 - ((V : Int) + 30) % 31) = (Z : Int) := by rw [HZ.out]; omega
  have hZb : Z < 65600 := by rw [HZ.out]; omega
  obtain ⟨i0, hi, ji0, ji1, ji2⟩ := info_parts Try.infoU8
  clear hS hv hp hb
  go_enter Try.func24, Try.ntmps24
  go_upto_region 6 with (first
    | (go_at_call 14; (with_reducible refine Hp.out.mono ?_); rintro e' w1 ⟨ov, out, rfl, hP, hS1⟩; obtain ⟨_, oo, oap, rfl, -, -, -, -⟩ := hS1.at_ 0 _ rfl; have HP := Lib.hid hP; have HS1 := Lib.hid hS1; clear hS1 hP Hp))
  have HoutL : Hid (out.length ≤ 1099511627776) := HP.out.2
  have hp2 := putBig_2 HS1.out Z (by omega)
  rw [Hz.out] at hp2
  have Hp2 := Lib.hid hp2
  obtain ⟨A, HA⟩ : ∃ A : Nat, Hid (A = adV (adl (1, 0) b)) := ⟨_, Lib.hid rfl⟩
  have hA : A < 4294967296 := by
    rw [HA.out]
    have h := adl_ok (p := (1, 0)) ⟨by decide, by decide⟩ b
    unfold AdOk at h
    unfold adV
    omega
  clear hp2 hZ HZ hZb hVb hsh HV
  go_wp2_with (first
    | (go_at_call 61; (with_reducible refine Hp2.out.mono ?_); rintro e' w2 ⟨ov2, rfl, hS2⟩; obtain ⟨_, ao2, cap2, rfl, -, -, -, -⟩ := hS2.at_ 0 _ rfl; have Hsrc := Lib.hid (SlR.src (P := Try.prog) (Sat.front hS2 1 _ rfl).sl_read Try.underlying22 (byteV_one out)); have HS2 := Lib.hid hS2; clear hS2 Hp2 HS1)
    | (at_builtin; refine wpList_append_sat _ rfl _ _ 22 22 rfl 5 i0 (.int .u8 0) 1 1 Try.underlying22 hi ji0 ji1 ji2 rfl (by decide) 2 _ _ _ rfl HS2.out out.length _ _ rfl Hsrc.out (by have := HoutL.out; unfold maxLen; omega) (by have := HoutL.out; omega) ?_; intro v3 w3 hS3; obtain ⟨_, ao3, cap3, rfl, -, -, -, -⟩ := hS3.at_ 0 _ rfl; have ha := adOf_any (Hv.out w3 hS3.tail.tail) (by have := Hb.out; omega); rw [← HA.out] at ha; have Ha := Lib.hid ha; have HS3 := Lib.hid hS3; clear hS3 ha HS2 Hsrc)
    | (go_at_call 62; (with_reducible refine Ha.out.mono ?_); rintro e' w4 ⟨rfl, m, hw4⟩; have hS4 := HS3.out.drewN m; rw [← hw4] at hS4; have hp4 := putBig_4 hS4 A hA; have Hp4 := Lib.hid hp4; clear hS4 hp4 hw4 HS3 Ha)
    | (go_at_call 61; (with_reducible refine Hp4.out.mono ?_); rintro e' w5 ⟨ov5, rfl, hS5⟩; obtain ⟨_, ao5, cap5, rfl, -, -, -, -⟩ := hS5.at_ 0 _ rfl; have Hsrc := Lib.hid (SlR.src (P := Try.prog) hS5.sl_read Try.underlying22 (byteV_one (be4 A))); have HS5 := Lib.hid hS5.swap; clear hS5 Hp4)
    | (at_builtin; refine wpList_append_sat _ rfl _ _ 22 22 rfl 5 i0 (.int .u8 0) 1 1 Try.underlying22 hi ji0 ji1 ji2 rfl (by decide) (2 + out.length) _ _ _ rfl HS5.out 4 _ _ rfl Hsrc.out (by have := HoutL.out; unfold maxLen; omega) (by have := HoutL.out; omega) ?_; intro v6 w6 hS6; have HS6 := Lib.hid hS6; clear hS6 HS5 Hsrc))
  go_ret2
  refine ⟨v6, out, rfl, HP.out.1, ?_⟩
  have h := Sat.perm (As := [_, _, _]) HS6.out [0] [_] rfl (by simp)
  have hl : (zwrap how out b).length = 2 + out.length + 4 := by
    unfold zwrap
    rw [List.length_append, List.length_append, zhead_len]
    rfl
  rw [hl]
  unfold zwrap
  rw [List.map_append, List.map_append, ← HA.out]
  exact h

end Go.Proofs.Ytdpocnkeokplpaa
