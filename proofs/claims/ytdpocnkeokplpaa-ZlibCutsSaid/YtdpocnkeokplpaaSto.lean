/- bits.Writer.Align; deflate.store. -/
import Derived.Test.YtdpocnkeokplpaaQg
import Derived.Test.YtdpocnkeokplpaaAdl
import Derived.Test.YtdpocnkeokplpaaOctets
import Derived.Deep.CutRange
namespace Go.Proofs.Ytdpocnkeokplpaa
open Go.RowKit Go.Hal
set_option linter.unusedVariables false
set_option linter.unusedSimpArgs false

def alignB (l : List Bool) : List Bool := l ++ List.replicate ((8 - l.length % 8) % 8) false
theorem alignB_len (l : List Bool) : (alignB l).length = 8 * ((l.length + 7) / 8) := by
  unfold alignB
  rw [List.length_append, List.length_replicate]
  omega
set_option maxRecDepth 100000 in
set_option maxHeartbeats 1000000 in
theorem align_wrt {w : World} {r : Nat} {l : List Bool} {Rs : List Res} (hS : Sat w (wrt r l :: Rs)) (hl : l.length ≤ 1099511627776) :
    Calls Try.prog 67 #[.pointer (some ⟨r, 0, none⟩)] w fun e w' => e = .returned (.tuple #[]) ∧ Sat w' (wrt r (alignB l) :: Rs) := by
  obtain ⟨v, bs, h, h1, h2⟩ := wrt_open hS
  obtain ⟨c0, c1, f0, f1⟩ := two_cells h
  obtain ⟨F, ao, cap, rfl, -, -, -, -⟩ := h.at_ 1 _ rfl
  have hw : IntKind.i64.wrap (8 * (bs.length : Int)) = 8 * bs.length := i64_id _ (by omega) (by omega)
  have HE : Hid (Sat (w.setCell ⟨r, 1, none⟩ (.int .i64 (8 * (bs.length : Int)))) (wrt r (alignB l) :: Rs)) := by
    have h9 := Sat.setCell (i := 1) h (.int .i64 (8 * (bs.length : Int)))
    have hlen := alignB_len l
    refine wrt_shut (v := .slice ao bs.length cap) (bs := bs) ?_ (by rw [hlen, h1]; omega) ?_
    · rw [hlen, ← h1]
      exact h9
    · rw [h2, hlen]
      unfold alignB
      rw [show 8 * bs.length - 8 * ((l.length + 7) / 8) = 0 by omega, List.replicate_zero, List.append_nil]
      congr 2
      omega
  clear hS h h1 h2 hl
  go_enter Try.func67, Try.ntmps67
  go_wp2
  go_end0
  exact ⟨rfl, HE.out⟩

/-- One stored block. -/
def chunkB (l : List Bool) (e : Nat) (t : List UInt8) : List Bool := alignB (l ++ low e 3) ++ low (t.length + (65535 - t.length) * 65536) 32 ++ bitsOf t
def storeB (last : Nat) : Nat → List Bool → List UInt8 → List Bool
  | 0, l, _ => l
  | k + 1, l, b => if b.length ≤ 65535 then chunkB l last b else storeB last k (chunkB l 0 (b.take 65535)) (b.drop 65535)
theorem chunkB_len (l : List Bool) (e : Nat) (t : List UInt8) : (chunkB l e t).length ≤ l.length + 42 + 8 * t.length := by
  unfold chunkB
  rw [List.length_append, List.length_append, low_length, alignB_len, List.length_append, low_length, bitsOf_length]
  omega
theorem word_n (n : Nat) (h : n ≤ 65535) : bits .xor .i64 (n : Int) 65535 = ((65535 - n : Nat) : Int) ∧ bits .or .i64 (n : Int) (((65535 - n : Nat) : Int) * 65536) = ((n + (65535 - n) * 65536 : Nat) : Int) := by
  constructor
  · rw [show (65535 : Int) = ((65535 : Nat) : Int) from rfl, xor_i64 _ _ (by omega) (by omega)]
    congr 1
    refine Nat.eq_of_testBit_eq fun i => ?_
    have h1 := Nat.testBit_two_pow_sub_succ (n := 16) (x := n) (by omega) i
    have h2 := Nat.testBit_two_pow_sub_one 16 i
    rw [show (2 ^ 16 - (n + 1) : Nat) = 65535 - n by omega] at h1
    rw [show (2 ^ 16 - 1 : Nat) = 65535 by rfl] at h2
    rw [Nat.testBit_xor, h1, h2]
    by_cases hi : i < 16
    · cases n.testBit i <;> simp [hi]
    · have : n.testBit i = false := Nat.testBit_lt_two_pow (Nat.lt_of_lt_of_le (show n < 2 ^ 16 by omega) (Nat.pow_le_pow_right (n := 2) (by omega) (show 16 ≤ i by omega)))
      simp [hi, this]
  · rw [show (((65535 - n : Nat) : Int) * 65536) = (((65535 - n) * 65536 : Nat) : Int) by omega, or_i64 _ _ (by omega) (by omega)]
    congr 1
    have h1 := Nat.two_pow_add_eq_or_of_lt (i := 16) (b := n) (by omega) (65535 - n)
    rw [Nat.or_comm]
    rw [show (65535 - n) * 65536 = 2 ^ 16 * (65535 - n) by omega, ← h1]
    omega

set_option maxRecDepth 100000 in
set_option maxHeartbeats 4000000 in
theorem store_any {w : World} {r last K : Nat} {l0 : List Bool} {Rs : List Res} (hS : Sat w (wrt r l0 :: Rs)) {v : Value} {b0 : List UInt8} (hv : ∀ w', Sat w' Rs → SlR w' 5 1 b0.length v (b0.map byteV)) (hlast : last ≤ 1) (hK : b0.length < 65535 * K)
    (hl : l0.length + 16 * b0.length + 64 ≤ 1099511627776) :
    Calls Try.prog 31 #[.pointer (some ⟨r, 0, none⟩), v, .int .i64 last] w fun e w' => e = .returned (.tuple #[]) ∧ Sat w' (wrt r (storeB last K l0 b0) :: Rs) := by
  obtain ⟨ao, cap, rfl, -, -, -, -⟩ := hv w hS.tail
  have Hv := Lib.hid hv
  have HS := Lib.hid hS
  have Hlast := Lib.hid hlast
  have Hl := Lib.hid hl
  have HK := Lib.hid hK
  clear hS hv hlast hl hK
  go_enter Try.func31, Try.ntmps31
  go_wp2
  go_loopg [1] K (fun g bv wr => ∃ (l : List Bool) (b : List UInt8), Hid (b.length < 65535 * g) ∧ Hid (storeB last K l0 b0 = storeB last g l b) ∧ Hid (l.length + 16 * b.length + 64 ≤ 1099511627776) ∧ Hid (∀ w', Sat w' Rs → SlR w' 5 1 b.length bv (b.map byteV)) ∧ Hid (Sat wr (wrt r l :: Rs)))
  case atStart => exact ⟨l0, b0, HK, rfl, Hl, Hv, HS⟩
  case round =>
    obtain ⟨l, b, Hg, Hst, Hlb, HV, HW⟩ := hrel
    clear HS Hv Hl HK
    obtain ⟨bo, bcap, rfl, hbc, hbm, -, -⟩ := HV.out wr HW.out.tail
    unfold maxLen at hbm
    obtain ⟨n, hn⟩ : ∃ n : Nat, n = min b.length 65535 := ⟨_, rfl⟩
    have hnI : min (b.length : Int) 65535 = (n : Int) := by omega
    have hnb : n ≤ b.length := by omega
    have hn6 : n ≤ 65535 := by omega
    have hlbl : b.length ≤ 68719476736 := by have := Hlb.out; omega
    have Hn := Lib.hid hn
    clear hn
    go_upto_region 0 with (fail)
    go_cut [6] from 10 to 48 (fun s6 wx => s6 = .int .i64 n ∧ wx = wr)
    case first =>
      go_wp2
      all_goals first
        | (exfalso; have := Hn.out; omega)
        | (go_meet
           exact ⟨vi (by have := Hn.out; omega), rfl⟩)
    obtain ⟨rfl, rfl⟩ := hcut
    obtain ⟨en, Hen⟩ : ∃ en : Nat, Hid (en = if b.length ≤ 65535 then last else 0) := ⟨_, Lib.hid rfl⟩
    have hen : en ≤ 1 := by rw [Hen.out]; have := Hlast.out; split <;> omega
    go_upto_if 16 with (fail)
    go_cut [7] from 10 to 48 (fun s7 wx => s7 = .int .i64 en ∧ wx = wc)
    case first =>
      by_cases hle : b.length ≤ 65535
      · have hq : ((n : Int) == (b.length : Int)) = true := beq_iff_eq.2 (by have := Hn.out; omega)
        have hE : en = last := by rw [Hen.out, if_pos hle]
        have HE := Lib.hid hE
        clear hE
        go_wp2
        go_meet
        exact ⟨by rw [HE.out], rfl⟩
      · have hq : ((n : Int) == (b.length : Int)) = false := beq_eq_false_iff_ne.2 (by have := Hn.out; omega)
        have hE : en = 0 := by rw [Hen.out, if_neg hle]
        have HE := Lib.hid hE
        clear hE
        go_wp2
        go_meet
        exact ⟨by rw [HE.out]; rfl, rfl⟩
    obtain ⟨rfl, rfl⟩ := hcut
    have hp1 := put_wrt HW.out en 3 (by omega) (by omega) (by have := Hlb.out; omega)
    rw [show ((3 : Nat) : Int) = 3 from rfl] at hp1
    have Hp1 := Lib.hid hp1
    have hword := word_n n hn6
    have hwx := hword.1
    have hwo := hword.2
    obtain ⟨X, HX⟩ : ∃ X : Nat, Hid (X = 65535 - n) := ⟨_, Lib.hid rfl⟩
    obtain ⟨Z, HZ⟩ : ∃ Z : Nat, Hid (Z = n + (65535 - n) * 65536) := ⟨_, Lib.hid rfl⟩
    rw [← HX.out] at hwx hwo
    rw [show n + X * 65536 = Z by rw [HX.out, HZ.out]] at hwo
    have hXb : X ≤ 65535 := by rw [HX.out]; omega
    have hZb : Z < 4294967296 := by rw [HZ.out]; omega
    have hX16 : IntKind.i64.wrap ((X : Int) * 65536) = (X : Int) * 65536 := i64_id _ (by omega) (by omega)
    have hncap : (n : Int) ≤ (bcap : Int) := by omega
    have hn0 : (0 : Int) ≤ (n : Int) := by omega
    clear hword hp1 hnI
    go_upto_region 7 with (first
      | (go_at_call 38; (with_reducible refine Hp1.out.mono ?_); rintro e' w2 ⟨rfl, hS2⟩; have Ha := Lib.hid (align_wrt hS2 (by have := Hlb.out; rw [List.length_append, low_length]; omega)); clear hS2 Hp1)
      | (go_at_call 67; (with_reducible refine Ha.out.mono ?_); rintro e' w3 ⟨rfl, hS3⟩; have hp2 := put_wrt hS3 Z 32 (by omega) (by omega) (by have := Hlb.out; rw [alignB_len, List.length_append, low_length]; omega); rw [show ((32 : Nat) : Int) = 32 from rfl] at hp2; have Hp2 := Lib.hid hp2; clear hp2 hS3 Ha)
      | (go_at_call 38; (with_reducible refine Hp2.out.mono ?_); rintro e' w4 ⟨rfl, hS4⟩; have HS4 := Lib.hid hS4; clear hS4 Hp2))
    obtain ⟨L2, HL2⟩ : ∃ L2, Hid (L2 = alignB (l ++ low en 3) ++ low Z 32) := ⟨_, Lib.hid rfl⟩
    rw [← HL2.out] at HS4
    have HL2b : Hid (L2.length ≤ l.length + 42) := by
      unfold Hid
      rw [HL2.out, List.length_append, low_length, alignB_len, List.length_append, low_length]
      omega
    go_wp2
    go_loopw [34] (fun iv wr => ∃ k : Nat, k ≤ n ∧ iv = .int .i64 k ∧ Hid (Sat wr (wrt r (L2 ++ bitsOf (b.take k)) :: Rs))) (fun iv _ => n - (intOf iv).toNat)
    case atStart => exact ⟨0, by omega, rfl, by rw [List.take_zero]; simpa [bitsOf] using HS4⟩
    case round =>
      obtain ⟨k, hk, rfl, HWk⟩ := hrel
      by_cases hlt : k < n
      · have hkI : decide ((k : Int) < (n : Int)) = true := decide_eq_true (by omega)
        have hkN : decide (k < n) = true := decide_eq_true hlt
        obtain ⟨ao2, cap2, hve, -, -, hcell⟩ := BytesR.cell (HV.out wr HWk.out.tail)
        simp only [Value.slice.injEq, true_and] at hve
        obtain ⟨rfl, rfl⟩ := hve
        obtain ⟨bb, o, rfl, hb, hcl⟩ := hcell k (by omega)
        have hkn : (k : Int) < (n : Int) := by omega
        have hbb := UInt8.toNat_lt b[k]
        have hp3 : ∀ v : Int, v = (b[k].toNat : Int) → Calls Try.prog 38 #[.pointer (some ⟨r, 0, none⟩), .int .i64 v, .int .i64 8] wr fun e w' => e = .returned (.tuple #[]) ∧ Sat w' (wrt r (L2 ++ bitsOf (b.take k) ++ low b[k].toNat 8) :: Rs) := by
          rintro v rfl
          have h := put_wrt HWk.out b[k].toNat 8 (by omega) (by omega) (by rw [List.length_append, bitsOf_length, List.length_take]; have := HL2b.out; have := Hlb.out; omega)
          rw [show ((8 : Nat) : Int) = 8 from rfl] at h
          exact h
        have Hp3 := Lib.hid hp3
        have Hbb := Lib.hid hbb
        clear hp3 hcell hbb
        go_wp2_with (go_at_call 38; (with_reducible refine (Hp3.out _ ?_).mono ?_); (exact wrap64_id _ (by omega) (by have := Hbb.out; omega)); rintro e' w6 ⟨rfl, hS6⟩; have HS6 := Lib.hid hS6; clear hS6 Hp3)
        refine ⟨⟨k + 1, by omega, vi (by omega), ?_⟩, by simp [intOf]; omega⟩
        unfold Hid
        rw [List.take_succ_eq_append_getElem (by omega)]
        have h := HS6.out
        rw [List.append_assoc] at h
        have e : bitsOf (b.take k ++ [b[k]]) = bitsOf (b.take k) ++ low b[k].toNat 8 := by
          rw [bitsOf_append, bitsOf_cons]; simp [bitsOf, low, byteBits]
        rw [e]
        exact h
      · have hkI : decide ((k : Int) < (n : Int)) = false := decide_eq_false (by omega)
        have hkN : decide (k < n) = false := decide_eq_false hlt
        obtain rfl : k = n := by omega
        clear hlt
        go_upto_region 12 with (fail)
        clear hkI hkN hk
        have hkb : (k : Int) ≤ (b.length : Int) := by omega
        go_cut [1] from 10 to 48 (fun s1 wx => Hid (∀ w', Sat w' Rs → SlR w' 5 1 (b.drop k).length s1 ((b.drop k).map byteV)) ∧ wx = wr)
        case first =>
          by_cases hcn : bcap = k
          · have hcn2 := hcn.symm
            clear hcn
            subst hcn2
            go_wp2
            go_meet
            refine ⟨fun w' h' => ?_, rfl⟩
            have h9 := sl_tl (HV.out w' h') k hnb
            rw [if_pos rfl] at h9
            rw [List.length_drop, List.map_drop]
            rw [show b.length - k = 0 by omega] at h9 ⊢
            rw [Nat.sub_self] at h9
            exact h9
          · go_wp2
            go_meet
            refine ⟨fun w' h' => ?_, rfl⟩
            have h9 := sl_tl (HV.out w' h') k hnb
            rw [if_neg hcn] at h9
            rw [List.length_drop, List.map_drop]
            exact h9
        obtain ⟨HV2, rfl⟩ := hcut
        obtain ⟨B2, HB2⟩ : ∃ B2, Hid (B2 = b.drop k) := ⟨_, Lib.hid rfl⟩
        rw [← HB2.out] at HV2
        obtain ⟨vo, vc, rfl, -⟩ := HV2.out _ HWk.out.tail
        have Hend : Hid (L2 ++ bitsOf (b.take k) = chunkB l en (b.take k)) := by
          unfold Hid chunkB
          rw [HL2.out, HZ.out, List.length_take, Nat.min_eq_left hnb]
        rw [Hend.out] at HWk
        clear Hend HL2 HL2b HZ hwx hwo HX hXb hZb hX16 HS4
        obtain ⟨gk', hgk⟩ : ∃ gk', gk = gk' + 1 := ⟨gk - 1, by have := Hg.out; omega⟩
        by_cases hle : b.length ≤ 65535
        · have hkl : B2.length = 0 := by rw [HB2.out, List.length_drop]; have := Hn.out; omega
          have hz : ((B2.length : Int) == 0) = true := beq_iff_eq.2 (by omega)
          have hz2 : (B2.length == 0) = true := beq_iff_eq.2 hkl
          have HF : Hid (storeB last K l0 b0 = chunkB l en (b.take k)) := by
            unfold Hid
            rw [Hst.out, hgk]
            unfold storeB
            rw [if_pos hle, Hen.out, if_pos hle, List.take_of_length_le (by have := Hn.out; omega)]
          have Hkl := Lib.hid hkl
          have Hgk := Lib.hid hgk
          clear hkl hgk
          go_wp2
          ((try simp only [Exit.inBlock, Exit.then]); refine bodyPost_ret (results_none rfl _ _ _) rfl ?_)
          rw [HF.out]
          exact ⟨rfl, HWk.out⟩
        · have hkl : B2.length = b.length - 65535 := by rw [HB2.out, List.length_drop]; have := Hn.out; omega
          have hz : ((B2.length : Int) == 0) = false := beq_eq_false_iff_ne.2 (by omega)
          have hz2 : (B2.length == 0) = false := beq_eq_false_iff_ne.2 (by omega)
          have HF : Hid (storeB last K l0 b0 = storeB last gk' (chunkB l en (b.take k)) B2) := by
            unfold Hid
            rw [Hst.out, hgk]
            have hk65 : k = 65535 := by have := Hn.out; omega
            rw [storeB, if_neg hle, Hen.out, if_neg hle, HB2.out, hk65]
          have Hkl := Lib.hid hkl
          have hbl : B2.length = b.length - 65535 := hkl
          have hg2 : gk' < gk := by omega
          have Hg2 : Hid (B2.length < 65535 * gk') := by have := Hg.out; unfold Hid; omega
          have Hlb2 : Hid ((chunkB l en (b.take k)).length + 16 * B2.length + 64 ≤ 1099511627776) := by
            have h1 := chunkB_len l en (b.take k)
            have := Hlb.out
            have := Hn.out
            rw [List.length_take] at h1
            unfold Hid
            omega
          have Hgk := Lib.hid hgk
          clear hkl hgk hbl
          go_wp2
          go_roundg gk'
          case measure => exact hg2
          case rel => exact ⟨chunkB l en (b.take k), B2, Hg2, HF, Hlb2, HV2, HWk⟩

end Go.Proofs.Ytdpocnkeokplpaa
