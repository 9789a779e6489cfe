/- The document's zlib behind a head that is taken. -/
import Derived.Test.YtdpocnkeokplpaaGreatZRef
import Derived.Test.YtdpocnkeokplpaaGreatZRow
import Derived.Deep.RegionWith
namespace Go.Proofs.YtdpocnkeokplpaaGreat
open Go.RowKit Go.Hal
set_option linter.unusedVariables false
set_option linter.unusedSimpArgs false

theorem byte8 : ∀ b0 b1 b2 b3 b4 b5 b6 b7 : Bool, byteBits (UInt8.ofNat (b0.toNat + 2 * b1.toNat + 4 * b2.toNat + 8 * b3.toNat + 16 * b4.toNat + 32 * b5.toNat + 64 * b6.toNat + 128 * b7.toNat)) = [b0, b1, b2, b3, b4, b5, b6, b7] := by decide +kernel
theorem bits_bytes : ∀ (n : Nat) (l : List Bool), l.length = 8 * n → ∃ bs, bitsOf bs = l
  | 0, l, h => ⟨[], (List.eq_nil_of_length_eq_zero (by omega)).symm⟩
  | n + 1, b0 :: b1 :: b2 :: b3 :: b4 :: b5 :: b6 :: b7 :: r, h => by
    obtain ⟨bs, hbs⟩ := bits_bytes n r (by simp only [List.length_cons] at h; omega)
    exact ⟨UInt8.ofNat (b0.toNat + 2 * b1.toNat + 4 * b2.toNat + 8 * b3.toNat + 16 * b4.toNat + 32 * b5.toNat + 64 * b6.toNat + 128 * b7.toNat) :: bs, by rw [bitsOf_cons, byte8, hbs]; rfl⟩
  | n + 1, [], h | n + 1, [_], h | n + 1, [_, _], h | n + 1, [_, _, _], h | n + 1, [_, _, _, _], h | n + 1, [_, _, _, _, _], h | n + 1, [_, _, _, _, _, _], h | n + 1, [_, _, _, _, _, _, _], h => absurd h (by simp only [List.length_cons, List.length_nil]; omega)

/-- What the document tells behind a head. -/
inductive ZRf (lim : Int) (b : List UInt8) : List UInt8 → List UInt8 → Nat → Bool → Prop
  | run {rr : RunS} : FinalR lim (ds0.more (bitsOf b)) rr → rr.done = false → ZRf lim b rr.out [] rr.e false
  | few {rr : RunS} {rs : List UInt8} : FinalR lim (ds0.more (bitsOf b)) rr → rr.done = true → bitsOf rs = rr.bits.drop (rr.bits.length % 8) → rs.length < 4 → ZRf lim b rr.out [] 2 false
  | bad {rr : RunS} {rs : List UInt8} : FinalR lim (ds0.more (bitsOf b)) rr → rr.done = true → bitsOf rs = rr.bits.drop (rr.bits.length % 8) → 4 ≤ rs.length → beV (rs.take 4) ≠ adV (adl (1, 0) rr.out) → ZRf lim b rr.out [] 4 false
  | good {rr : RunS} {rs : List UInt8} : FinalR lim (ds0.more (bitsOf b)) rr → rr.done = true → bitsOf rs = rr.bits.drop (rr.bits.length % 8) → 4 ≤ rs.length → beV (rs.take 4) = adV (adl (1, 0) rr.out) → ZRf lim b rr.out (rs.drop 4) rr.e true
def ZRefP (lim : Int) (b : List UInt8) (Rs : List Res) (e' : Ending) (w' : World) : Prop := ∃ out rest e dn ov rv X, ZRf lim b out rest e dn ∧ e' = .returned (.agg #[ov, rv, .int .i64 (e : Nat), .bool dn]) ∧ (∀ w2, Sat w2 (X :: Rs) → SlR w2 5 1 rest.length rv (rest.map byteV)) ∧ Sat w' (sl 5 1 out.length ov (out.map byteV) :: X :: Rs)

set_option maxRecDepth 100000 in
set_option maxHeartbeats 4000000 in
theorem ref8_on {w : World} {lim : Int} {Rs : List Res} (hS : Sat w Rs) (hlim : lim ≤ 65535) {v : Value} {a c : UInt8} {b : List UInt8} (hv : ∀ w', Sat w' Rs → SlR w' 5 1 (a :: c :: b).length v ((a :: c :: b).map byteV)) (hb : b.length ≤ 1048576) (hok : HeadOk a c) :
    Calls Tryz.prog 8 #[v, .int .i64 lim] w (ZRefP lim b Rs) := by
  have hA := hS.alloc (.cells #[.slice none 0 0, .slice none 0 0, .int .i64 0, .bool false] 29)
  obtain ⟨ao, cap, rfl, hlc, hcm, hcell⟩ := BytesR.cell (hv _ hA.tail)
  obtain ⟨L, hL⟩ : ∃ L, Hid (L = (a :: c :: b).length) := ⟨_, Lib.hid rfl⟩
  have hL2 : L = b.length + 2 := by rw [hL.out, List.length_cons, List.length_cons]
  rw [← hL.out] at hlc
  obtain ⟨bb, o, rfl, hbk, h0⟩ := hcell 0 (by rw [← hL.out]; omega)
  obtain ⟨bb', o', he, -, h1⟩ := hcell 1 (by rw [← hL.out]; omega)
  simp only [Option.some.injEq, Addr.mk.injEq, and_true] at he
  obtain ⟨rfl, rfl⟩ := he
  have Hof : Hid (∀ v2, v2 = .slice (if cap = 2 then some (⟨bb, o, none⟩ : Addr) else Option.map (fun x : Addr => x.add 2) (some (⟨bb, o, none⟩ : Addr))) (L - 2) (cap - 2) → Calls Tryz.prog 19 #[v2, .int .i64 lim] (w.alloc (.cells #[.slice none 0 0, .slice none 0 0, .int .i64 0, .bool false] 29)).drew (OfP lim b (blk w.heap.size (.cells #[.slice none 0 0, .slice none 0 0, .int .i64 0, .bool false] 29 (0, 0)) :: Rs))) := by
    rintro v2 rfl
    refine of_run hA.drew (by omega) (fun w' h' => ?_) (by omega)
    have h9 := sl_tl (hv w' h'.tail) 2 (by rw [← hL.out]; omega)
    rw [← hL.out, show L - 2 = b.length by omega] at h9
    rw [show L - 2 = b.length by omega]
    exact h9
  rw [← hL.out]
  obtain ⟨A, HA⟩ : ∃ A : Nat, Hid (A = a.toNat) := ⟨_, Lib.hid rfl⟩
  obtain ⟨C, HC⟩ : ∃ C : Nat, Hid (C = c.toNat) := ⟨_, Lib.hid rfl⟩
  have h0' : (w.alloc (.cells #[.slice none 0 0, .slice none 0 0, .int .i64 0, .bool false] 29)).cell? ⟨bb, o, none⟩ = some (.int .u8 A) := by rw [HA.out]; exact h0
  have h1' : (w.alloc (.cells #[.slice none 0 0, .slice none 0 0, .int .i64 0, .bool false] 29)).cell? ⟨bb, o + 1, none⟩ = some (.int .u8 C) := by rw [HC.out]; exact h1
  have hA8 : A < 256 := by rw [HA.out]; exact a.toNat_lt
  have hC8 : C < 256 := by rw [HC.out]; exact c.toNat_lt
  have t1 : decide ((L : Int) < 2) = false := decide_eq_false (by omega)
  have t2 : decide (L < 2) = false := decide_eq_false (by omega)
  have g0 : (0 : Int) < (L : Int) := by omega
  have g1 : (1 : Int) < (L : Int) := by omega
  have g2 : (2 : Int) ≤ (L : Int) := by omega
  unfold HeadOk at hok
  rw [← HA.out, ← HC.out] at hok
  have hq1 : (A : Int) % 16 = 8 := by omega
  have hq2 : decide (7 < (A : Int) / 16) = false := decide_eq_false (by omega)
  have hq3 : (C : Int) / 32 % 2 = 0 := by omega
  have hq4 : (256 * (A : Int) + (C : Int)) % 31 = 0 := by omega
  have HL2 := Lib.hid hL2
  have HcL : Hid (L ≤ cap) := hlc
  have HbL := Lib.hid hb
  clear hS hv hA hcell h0 h1 hcm hok hL2 hlc hb
  go_enter Tryz.func8, Tryz.ntmps8
  go_upto_region 3 with (fail)
  go_region
  go_upto_region 6 with (fail)
  go_cut [7] from 10 to 95 (fun s7 wx => ∃ p rr, s7 = .pointer (some ⟨p, 0, none⟩) ∧ Hid (FinalR lim (ds0.more (bitsOf b)) rr) ∧ Hid ((rr.out.length : Int) ≤ max 0 lim) ∧ Hid (Sat wx (run p lim rr :: blk w.heap.size (.cells #[.slice none 0 0, .slice none 0 0, .int .i64 0, .bool false] 29 (0, 0)) :: Rs)))
  case first =>
    have hLI : ((L : Int) - 2).toNat = L - 2 := by omega
    by_cases hc2 : cap = 2
    · have Hof2 := Lib.hid (Hof.out (.slice (some ⟨bb, o, none⟩) (L - 2) 0) (by rw [if_pos hc2, hc2]))
      subst hc2
      clear Hof
      go_wp2_with (go_at_call 19; go_loud ((with_reducible refine Hof2.out.mono ?_); rintro e' w3 ⟨p, rr, rfl, hF, hlen, hS3⟩))
      go_meet
      exact ⟨p, rr, rfl, hF, hlen, hS3⟩
    · have Hof2 := Lib.hid (Hof.out (.slice (some ⟨bb, o + 2, none⟩) (L - 2) (cap - 2)) (by rw [if_neg hc2]; rfl))
      clear Hof
      go_wp2_with (go_at_call 19; go_loud ((with_reducible refine Hof2.out.mono ?_); rintro e' w3 ⟨p, rr, rfl, hF, hlen, hS3⟩))
      go_meet
      exact ⟨p, rr, rfl, hF, hlen, hS3⟩
  obtain ⟨p, rr, rfl, HF, Hlen, HR⟩ := hcut
  obtain ⟨bits, out, e, done, kinds⟩ := rr
  obtain ⟨bv, ov, kv, hR⟩ := run_open HR.out
  obtain ⟨_, bo2, bap2, rfl, hble, hbcm, -, -⟩ := hR.at_ 1 _ rfl
  obtain ⟨_, oo, oap, rfl, -, -, -, -⟩ := hR.at_ 2 _ rfl
  obtain ⟨q0, q2, -, q4, q5, -⟩ := run_cells hR
  replace q0 : wc.cell? ⟨p, 0, none⟩ = some (.slice bo2 bits.length bap2) := q0
  replace q2 : wc.cell? ⟨p, 2, none⟩ = some (.slice oo out.length oap) := q2
  replace q4 : wc.cell? ⟨p, 4, none⟩ = some (.int .i64 (e : Nat)) := q4
  replace q5 : wc.cell? ⟨p, 5, none⟩ = some (.bool done) := q5
  have qa2 : ∀ ob, (wc.alloc ob).cell? ⟨p, 2, none⟩ = some (.slice oo out.length oap) := fun ob => (run_cells (hR.alloc_drop ob)).2.1
  have qa4 : ∀ ob, (wc.alloc ob).cell? ⟨p, 4, none⟩ = some (.int .i64 (e : Nat)) := fun ob => (run_cells (hR.alloc_drop ob)).2.2.2.1
  have HRL := Lib.hid hR
  clear hR HR Hof h0' h1' hq1 hq2 hq3 hq4 g0 g1 g2 t1 t2 hA8 hC8 HA HC hL
  go_upto_region 7 with (fail)
  go_region
  have HW := Lib.hid ((HRL.out.alloc (.cells #[.slice oo out.length oap, .slice none 0 0, .int .i64 e, .bool false] 29)).drew)
  generalize hxb : wc.heap.size = xb at HW ⊢
  generalize (wc.alloc (.cells #[.slice oo out.length oap, .slice none 0 0, .int .i64 e, .bool false] 29)).drew = W1 at HW ⊢
  generalize w.heap.size = rb at HW ⊢
  clear hxb qa2 qa4 q0 q2 q4 q5
  have hxr := Sat.heap HW.out
  have hrr := Sat.heap (Sat.front HW.out 5 _ rfl)
  have q5 : W1.cell? ⟨p, 5, none⟩ = some (.bool done) := (run_cells HW.out.tail).2.2.2.2.1
  cases done
  case false =>
    have HE9 := Lib.hid (Sat.setRow4 (Sat.front HW.out 5 _ rfl) rfl (.slice oo out.length oap) (.slice none 0 0) (.int .i64 (e : Nat)) (.bool false))
    go_upto_region 9 with (fail)
    go_wp2_with (first
      | (refine wpList_load_row rfl _ _ rfl xb rfl _ _ (0, 0) _ hxr rfl rfl rfl ?_)
      | (refine wpList_store_row rfl _ _ _ rfl rb #[.slice oo out.length oap, .slice none 0 0, .int .i64 (e : Nat), .bool false] rfl rfl _ _ hrr rfl rfl (by simp [Value.oneCell']) ?_))
    refine bodyPost_ret (results_cell_row rfl _ _ _ 29 _ (0, 0) _ rfl HE9.out.heap rfl rfl rfl) rfl ?_
    exact ⟨out, [], e, false, .slice oo out.length oap, .slice none 0 0, _, .run HF.out rfl, rfl, fun w2 h => (h.tail.sl_nil 5 1 none).sl_read, Sat.perm (As := [_, _, _, _, _, _]) HE9.out [4, 0] [_, _] rfl (by simp)⟩
  obtain ⟨m, Hm⟩ : ∃ m, Hid (m = bits.length % 8) := ⟨_, Lib.hid rfl⟩
  have hml : m ≤ bits.length := by rw [Hm.out]; omega
  obtain ⟨rs, hrs⟩ := bits_bytes ((bits.length - m) / 8) (bits.drop m) (by rw [List.length_drop]; have := Hm.out; omega)
  have Hrs := Lib.hid hrs
  clear hrs
  have hrl : rs.length ≤ 1048576 := by
    have h1 : 8 * rs.length = (bits.drop m).length := by rw [← Hrs.out, bitsOf_length]
    rcases HF.out with ⟨-, -, s, k3, k4, k5, k6⟩ | ⟨k1, -⟩ | ⟨k1, -⟩
    · have k6 : s.bits = bits.drop (bits.length % 8) := k6
      have h2 := tells_bits (show Tells lim b (.ok s) from k3)
      rw [k6, ← Hm.out, ← h1] at h2
      have := HbL.out
      omega
    · cases k1
    · cases k1
  have Hrl := Lib.hid hrl
  clear hrl
  have q0 : W1.cell? ⟨p, 0, none⟩ = some (.slice bo2 bits.length bap2) := (run_cells HW.out.tail).1
  obtain ⟨LR, HLR⟩ : ∃ LR : List Res, Hid (LR = blk xb (.cells #[.slice oo out.length oap, .slice none 0 0, .int .i64 e, .bool false] 29 (0, 0)) :: (runL p lim ⟨bits, out, e, true, kinds⟩ (.slice bo2 bits.length bap2) (.slice oo out.length oap) kv ++ blk rb (.cells #[.slice none 0 0, .slice none 0 0, .int .i64 0, .bool false] 29 (0, 0)) :: Rs)) := ⟨_, Lib.hid rfl⟩
  have HW2 : Hid (Sat W1 LR) := by unfold Hid; rw [HLR.out]; exact HW.out
  have Hby : Hid (∀ v, v = .slice (if bap2 = m then bo2 else Option.map (fun x : Addr => x.add m) bo2) (bits.length - m) (bap2 - m) → Calls Tryz.prog 20 #[v] W1.drew fun e' w' => ∃ rv, e' = .returned rv ∧ Sat w' (sl 5 1 rs.length rv (rs.map byteV) :: LR)) := by
    rintro v rfl
    refine bytes_ref HW2.out.drew _ rs (fun w' h' => ?_) (by have := Hrl.out; omega)
    rw [HLR.out] at h'
    have h1 := SlR.rest (Sat.front h' 2 _ rfl).sl_read m hml
    rw [Hrs.out]
    unfold IntsR
    rw [show (bitsI (bits.drop m)).length = bits.length - m by simp [bitsI]]
    rw [show (bitsI (bits.drop m)).map intV = ((bitsI bits).map intV).drop m by simp [bitsI, List.map_drop]]
    exact h1
  have hmI : (bits.length : Int) % 8 = (m : Int) := by rw [Hm.out]; omega
  have hw1 : IntKind.i64.wrap (m : Int) = (m : Int) := i64_id _ (by have := Hm.out; omega) (by have := Hm.out; omega)
  have hm0 : (0 : Int) ≤ (m : Int) := by omega
  have hmlI : (m : Int) ≤ (bits.length : Int) := by omega
  have htm : Int.tmod (bits.length : Int) 8 = (m : Int) := by rw [Int.tmod_eq_emod_of_nonneg (by omega)]; exact hmI
  have hble2 : bits.length ≤ bap2 := hble
  have hmc : m ≤ bap2 := by omega
  go_upto_region 10 with (fail)
  go_cut [9] from 10 to 95 (fun s9 wx => ∃ ro rcap, s9 = .slice ro rs.length rcap ∧ Hid (Sat wx (sl 5 1 rs.length (.slice ro rs.length rcap) (rs.map byteV) :: LR)))
  case first =>
    clear hble hble2 hxr hrr q5
    by_cases hbm : bap2 = m
    · have Hb3 := Lib.hid (Hby.out (.slice bo2 (bits.length - m) 0) (by rw [if_pos hbm, hbm, Nat.sub_self]))
      subst hbm
      clear Hby
      go_region_with (go_at_call 20; refine Hb3.out.mono ?_; rintro e' w2 ⟨ov2, rfl, hS2⟩; obtain ⟨_, r1, r2, rfl, -, -, -, -⟩ := hS2.at_ 0 _ rfl; have HS2 := Lib.hid hS2; clear hS2)
      all_goals
        go_wp2
        go_meet
        exact ⟨r1, r2, rfl, HS2⟩
    · have Hb3 := Lib.hid (Hby.out (.slice (Option.map (fun x : Addr => x.add m) bo2) (bits.length - m) (bap2 - m)) (by rw [if_neg hbm]))
      clear Hby
      go_region_with (go_at_call 20; refine Hb3.out.mono ?_; rintro e' w2 ⟨ov2, rfl, hS2⟩; obtain ⟨_, r1, r2, rfl, -, -, -, -⟩ := hS2.at_ 0 _ rfl; have HS2 := Lib.hid hS2; clear hS2)
      all_goals
        go_wp2
        go_meet
        exact ⟨r1, r2, rfl, HS2⟩
  obtain ⟨ro, rcap, rfl, HRS⟩ := hcut
  have hS0 := HRS.out
  rw [HLR.out] at hS0
  clear Hby HW HW2 hxr hrr q5 q0 HRL hmI hw1 hm0 hmlI htm hmc hble hble2
  obtain ⟨_, r1, r2, heq, hrc, -, -, -⟩ := hS0.at_ 0 _ rfl
  simp only [Value.slice.injEq, true_and] at heq
  obtain ⟨rfl, rfl⟩ := heq
  have hXB := Sat.front hS0 1 _ rfl
  have hxr := Sat.heap hXB
  by_cases h4 : rs.length < 4
  · have d1 : decide ((rs.length : Int) < 4) = true := decide_eq_true (by omega)
    have d2 : decide (rs.length < 4) = true := decide_eq_true h4
    have fx := frozen_of_row wc xb 2 _ _ hxr
    have HE1 : Hid (Sat (wc.setCell ⟨xb, 2, none⟩ (.int .i64 2)) (blk xb (.cells #[.slice oo out.length oap, .slice none 0 0, .int .i64 2, .bool false] 29 (0, 0)) :: (sl 5 1 rs.length (.slice ro rs.length rcap) (rs.map byteV) :: (runL p lim ⟨bits, out, e, true, kinds⟩ (.slice bo2 bits.length bap2) (.slice oo out.length oap) kv ++ blk rb (.cells #[.slice none 0 0, .slice none 0 0, .int .i64 0, .bool false] 29 (0, 0)) :: Rs)))) := Sat.setCell (i := 2) hXB (.int .i64 2)
    have hxr1 := Sat.heap HE1.out
    have hrr1 := Sat.heap (Sat.front HE1.out 6 _ rfl)
    have HE9 := Lib.hid (Sat.setRow4 (Sat.front HE1.out 6 _ rfl) rfl (.slice oo out.length oap) (.slice none 0 0) (.int .i64 2) (.bool false))
    have H4 := Lib.hid h4
    have c2 : wc.cell? ⟨xb, 2, none⟩ = some (.int .i64 (e : Nat)) := by rw [cell_of_row wc xb 2 _ _ _ hxr]; rfl
    clear hS0 hXB h4 hxr hrc
    go_wp2_with (first
      | (refine wpList_load_row rfl _ _ rfl xb rfl _ _ (0, 0) _ hxr1 rfl rfl rfl ?_)
      | (refine wpList_store_row rfl _ _ _ rfl rb #[.slice oo out.length oap, .slice none 0 0, .int .i64 2, .bool false] rfl rfl _ _ hrr1 rfl rfl (by simp [Value.oneCell']) ?_))
    refine bodyPost_ret (results_cell_row rfl _ _ _ 29 _ (0, 0) _ rfl HE9.out.heap rfl rfl rfl) rfl ?_
    exact ⟨out, [], 2, false, .slice oo out.length oap, .slice none 0 0, _, .few HF.out rfl (by rw [Hrs.out, Hm.out]) H4.out, rfl, fun w2 h => (h.tail.sl_nil 5 1 none).sl_read, Sat.perm (As := [_, _, _, _, _, _, _]) HE9.out [5, 0] [_, _] rfl (by simp)⟩
  have h4' : 4 ≤ rs.length := by omega
  have d1 : decide ((rs.length : Int) < 4) = false := decide_eq_false (by omega)
  have d2 : decide (rs.length < 4) = false := decide_eq_false h4
  have hc4 : 4 ≤ rcap := by omega
  have hcI : (4 : Int) ≤ (rcap : Int) := by omega
  have hlI : (4 : Int) ≤ (rs.length : Int) := by omega
  have ht4 : (rs.take 4).length = 4 := by rw [List.length_take]; omega
  obtain ⟨V, HV⟩ : ∃ V : Nat, Hid (V = beV (rs.take 4)) := ⟨_, Lib.hid rfl⟩
  obtain ⟨A, HA⟩ : ∃ A : Nat, Hid (A = adV (adl (1, 0) out)) := ⟨_, Lib.hid rfl⟩
  have hVb : V < 4294967296 := by rw [HV.out]; exact beV_lt4 _ ht4
  have hVw : IntKind.u32.wrap (V : Int) = (V : Int) := by rw [IntKind.wrap_u32']; omega
  have HN : Hid (∀ n, Calls Tryz.prog 21 #[.slice ro 4 rcap] (wc.drewN n) fun e w' => e = .returned (.int .i64 (V : Nat)) ∧ w' = wc.drewN n) := by
    intro n
    have h9 := sl_hd (hS0.drewN n).sl_read 4 h4'
    rw [← List.map_take] at h9
    rw [HV.out]
    have h8 : BytesR (wc.drewN n) (.slice ro 4 rcap) (rs.take 4) := by unfold BytesR; rw [ht4]; exact h9
    exact number8_any h8 (by omega)
  have HO : Hid (∀ n, Calls Tryz.prog 22 #[.slice oo out.length oap] (wc.drewN n) fun e w' => e = .returned (.int .u32 (A : Nat)) ∧ w' = wc.drewN n) := by
    intro n
    rw [HA.out]
    exact refAdOf_any (Sat.front (hS0.drewN n) 4 _ rfl).sl_read
  have HX : ∀ n, Sat (wc.drewN n) (blk xb (.cells #[.slice oo out.length oap, .slice none 0 0, .int .i64 e, .bool false] 29 (0, 0)) :: (sl 5 1 rs.length (.slice ro rs.length rcap) (rs.map byteV) :: (runL p lim ⟨bits, out, e, true, kinds⟩ (.slice bo2 bits.length bap2) (.slice oo out.length oap) kv ++ blk rb (.cells #[.slice none 0 0, .slice none 0 0, .int .i64 0, .bool false] 29 (0, 0)) :: Rs))) := fun n => hXB.drewN n
  have c0 : wc.cell? ⟨xb, 0, none⟩ = some (.slice oo out.length oap) := by rw [cell_of_row wc xb 0 _ _ _ hxr]; rfl
  have H4 : Hid (4 ≤ rs.length) := h4'
  have HXh := Lib.hid HX
  have Hht := Lib.hid ht4
  clear HX hS0 hXB hxr h4' h4 hrc ht4
  go_upto_region 14 with (fail)
  go_quiet (first
    | (go_at_call 21; exact Calls.quiet_of_same (HN.out _))
    | (go_at_call 22; exact Calls.quiet_of_same (HO.out _)))
  have hX9 := HXh.out nq
  have hxr := Sat.heap hX9
  have f1 := frozen_of_row (wc.drewN nq) xb 1 _ _ hxr
  have f2 := frozen_of_row (wc.drewN nq) xb 2 _ _ hxr
  have f3 := frozen_of_row (wc.drewN nq) xb 3 _ _ hxr
  have g1 : (wc.drewN nq).cell? ⟨xb, 1, none⟩ = some (.slice none 0 0) := by rw [cell_of_row _ xb 1 _ _ _ hxr]; rfl
  have g2 : (wc.drewN nq).cell? ⟨xb, 2, none⟩ = some (.int .i64 (e : Nat)) := by rw [cell_of_row _ xb 2 _ _ _ hxr]; rfl
  have g3 : (wc.drewN nq).cell? ⟨xb, 3, none⟩ = some (.bool false) := by rw [cell_of_row _ xb 3 _ _ _ hxr]; rfl
  clear hxr
  obtain ⟨_, ao0, cap0, he0, -, -, -, hro0⟩ := hX9.at_ 1 _ rfl
  simp only [Value.slice.injEq, true_and] at he0
  obtain ⟨rfl, rfl⟩ := he0
  obtain ⟨b0, off0, -, rfl, -, -, -, -⟩ := hro0 (by omega)
  generalize wc.drewN nq = W2 at *
  by_cases hVA : V = A
  case neg =>
    have hne : ((V : Int) != (A : Int)) = true := bne_iff_ne.2 (by omega)
    have HE1 : Hid (Sat (W2.setCell ⟨xb, 2, none⟩ (.int .i64 4)) (blk xb (.cells #[.slice oo out.length oap, .slice none 0 0, .int .i64 4, .bool false] 29 (0, 0)) :: (sl 5 1 rs.length (.slice (some ⟨b0, off0, none⟩) rs.length rcap) (rs.map byteV) :: (runL p lim ⟨bits, out, e, true, kinds⟩ (.slice bo2 bits.length bap2) (.slice oo out.length oap) kv ++ blk rb (.cells #[.slice none 0 0, .slice none 0 0, .int .i64 0, .bool false] 29 (0, 0)) :: Rs)))) := Sat.setCell (i := 2) hX9 (.int .i64 4)
    have hxr1 := Sat.heap HE1.out
    have hrr1 := Sat.heap (Sat.front HE1.out 6 _ rfl)
    have HE9 := Lib.hid (Sat.setRow4 (Sat.front HE1.out 6 _ rfl) rfl (.slice oo out.length oap) (.slice none 0 0) (.int .i64 4) (.bool false))
    have HVA := Lib.hid hVA
    clear hX9 hVA
    go_wp2_with (first
      | (refine wpList_load_row rfl _ _ rfl xb rfl _ _ (0, 0) _ hxr1 rfl rfl rfl ?_)
      | (refine wpList_store_row rfl _ _ _ rfl rb #[.slice oo out.length oap, .slice none 0 0, .int .i64 4, .bool false] rfl rfl _ _ hrr1 rfl rfl (by simp [Value.oneCell']) ?_))
    refine bodyPost_ret (results_cell_row rfl _ _ _ 29 _ (0, 0) _ rfl HE9.out.heap rfl rfl rfl) rfl ?_
    exact ⟨out, [], 4, false, .slice oo out.length oap, .slice none 0 0, _, .bad HF.out rfl (by rw [Hrs.out, Hm.out]) H4.out (by rw [← HV.out, ← HA.out]; exact HVA.out), rfl, fun w2 h => (h.tail.sl_nil 5 1 none).sl_read, Sat.perm (As := [_, _, _, _, _, _, _]) HE9.out [5, 0] [_, _] rfl (by simp)⟩
  have heq : ((V : Int) != (A : Int)) = false := by rw [hVA]; simp
  have hbe : beV (rs.take 4) = adV (adl (1, 0) out) := by rw [← HV.out, ← HA.out]; exact hVA
  have Hbe := Lib.hid hbe
  clear hVA hbe
  have hd4 : (rs.drop 4).length = rs.length - 4 := List.length_drop
  obtain ⟨qo, Hqo⟩ : ∃ qo, Hid ((if rcap = 4 then some (⟨b0, off0, none⟩ : Addr) else Option.map (fun x : Addr => x.add 4) (some (⟨b0, off0, none⟩ : Addr))) = qo) := ⟨_, Lib.hid rfl⟩
  obtain ⟨RV, HRV⟩ : ∃ RV, Hid (RV = Value.slice qo (rs.length - 4) (rcap - 4)) := ⟨_, Lib.hid rfl⟩
  have HE1 : Hid (Sat ((W2.setCell ⟨xb, 3, none⟩ (.bool true)).setCell ⟨xb, 1, none⟩ RV) (blk xb (.cells #[.slice oo out.length oap, RV, .int .i64 e, .bool true] 29 (0, 0)) :: (sl 5 1 rs.length (.slice (some ⟨b0, off0, none⟩) rs.length rcap) (rs.map byteV) :: (runL p lim ⟨bits, out, e, true, kinds⟩ (.slice bo2 bits.length bap2) (.slice oo out.length oap) kv ++ blk rb (.cells #[.slice none 0 0, .slice none 0 0, .int .i64 0, .bool false] 29 (0, 0)) :: Rs)))) := Sat.setCell (i := 1) (Sat.setCell (i := 3) hX9 (.bool true)) RV
  have hxr1 := Sat.heap HE1.out
  have hrr1 := Sat.heap (Sat.front HE1.out 6 _ rfl)
  have HE9 := Lib.hid (Sat.setRow4 (Sat.front HE1.out 6 _ rfl) rfl (.slice oo out.length oap) RV (.int .i64 (e : Nat)) (.bool true))
  have hone : RV.oneCell' = true := by rw [HRV.out]; rfl
  have Hread : Hid (∀ w2, Sat w2 (sl 5 1 rs.length (.slice (some ⟨b0, off0, none⟩) rs.length rcap) (rs.map byteV) :: Rs) → SlR w2 5 1 (rs.drop 4).length RV ((rs.drop 4).map byteV)) := by
    intro w2 h
    have h9 := sl_tl h.sl_read 4 H4.out
    rw [Hqo.out, ← HRV.out] at h9
    rw [hd4, List.map_drop]
    exact h9
  clear hX9 hd4
  by_cases hc4 : rcap = 4
  · have eRV : RV = Value.slice (some ⟨b0, off0, none⟩) (rs.length - 4) 0 := by rw [HRV.out, ← Hqo.out, if_pos hc4, hc4]
    subst hc4
    have hlen4 : ((rs.length : Int) - 4).toNat = rs.length - 4 := by omega
    have ERV := Lib.hid eRV
    clear eRV
    go_upto_region 19 with (fail)
    rw [← ERV.out]
    go_wp2_with (first
      | (refine wpList_load_row rfl _ _ rfl xb rfl _ _ (0, 0) _ hxr1 rfl rfl rfl ?_)
      | (refine wpList_store_row rfl _ _ _ rfl rb #[.slice oo out.length oap, RV, .int .i64 (e : Nat), .bool true] rfl rfl _ _ hrr1 rfl rfl (by simp [Value.oneCell']; rw [HRV.out]) ?_))
    refine bodyPost_ret (results_cell_row rfl _ _ _ 29 _ (0, 0) _ rfl HE9.out.heap rfl rfl rfl) rfl ?_
    exact ⟨out, rs.drop 4, e, true, .slice oo out.length oap, RV, _, .good HF.out rfl (by rw [Hrs.out, Hm.out]) H4.out Hbe.out, rfl, Hread.out, Sat.perm (As := [_, _, _, _, _, _, _]) HE9.out [5, 2] [_, _] rfl (by simp)⟩
  · have eRV : RV = Value.slice (some ⟨b0, off0 + 4, none⟩) (rs.length - 4) (rcap - 4) := by rw [HRV.out, ← Hqo.out, if_neg hc4]; rfl
    have hlen4 : ((rs.length : Int) - 4).toNat = rs.length - 4 := by omega
    have ERV := Lib.hid eRV
    clear eRV
    go_upto_region 19 with (fail)
    rw [← ERV.out]
    go_wp2_with (first
      | (refine wpList_load_row rfl _ _ rfl xb rfl _ _ (0, 0) _ hxr1 rfl rfl rfl ?_)
      | (refine wpList_store_row rfl _ _ _ rfl rb #[.slice oo out.length oap, RV, .int .i64 (e : Nat), .bool true] rfl rfl _ _ hrr1 rfl rfl (by simp [Value.oneCell']; rw [HRV.out]) ?_))
    refine bodyPost_ret (results_cell_row rfl _ _ _ 29 _ (0, 0) _ rfl HE9.out.heap rfl rfl rfl) rfl ?_
    exact ⟨out, rs.drop 4, e, true, .slice oo out.length oap, RV, _, .good HF.out rfl (by rw [Hrs.out, Hm.out]) H4.out Hbe.out, rfl, Hread.out, Sat.perm (As := [_, _, _, _, _, _, _]) HE9.out [5, 2] [_, _] rfl (by simp)⟩

end Go.Proofs.YtdpocnkeokplpaaGreat
