/- The document's inflate: a stored block. -/
import Derived.Test.YtdpocnkeokplpaaGreatRunP
import Derived.Test.YtdpocnkeokplpaaGreatStor
namespace Go.Proofs.YtdpocnkeokplpaaGreat
open Go.RowKit Go.Hal
set_option linter.unusedVariables false
set_option linter.unusedSimpArgs false

theorem xor_iff {k m : Nat} (hk : k < 65536) : k ^^^ m = 65535 ↔ m = 65535 - k := by
  have h1 := xor_all k hk
  constructor
  · intro h
    have h2 : k ^^^ (k ^^^ m) = k ^^^ (k ^^^ (65535 - k)) := by rw [h, h1]
    rw [← Nat.xor_assoc, ← Nat.xor_assoc, Nat.xor_self, Nat.zero_xor, Nat.zero_xor] at h2
    exact h2
  · rintro rfl
    exact h1
theorem run_e {w : World} {p : Nat} {lim : Int} {bits : List Bool} {out : List UInt8} {e : Nat} {done : Bool} {kinds : List Int} {Rs : List Res} (hS : Sat w (run p lim ⟨bits, out, e, done, kinds⟩ :: Rs)) : w.cell? ⟨p, 4, none⟩ = some (.int .i64 (e : Nat)) := by
  obtain ⟨bv, ov, kv, hS1⟩ := run_open hS
  exact (run_cells hS1).2.2.2.1

/-- What stays of a Run in a block. -/
def Kept (lim : Int) (done : Bool) (kinds : List Int) (r : RunS) : Prop := r.done = done ∧ r.kinds = kinds ∧ (r.out.length : Int) ≤ max 0 lim

set_option maxRecDepth 100000 in
set_option maxHeartbeats 4000000 in
theorem stored_run {w : World} {p : Nat} {lim : Int} {bits : List Bool} {out : List UInt8} {done last : Bool} {kinds : List Int} {Rs : List Res} {s0 s : DS} (hS : Sat w (run p lim ⟨bits, out, 0, done, kinds⟩ :: Rs)) (hlim : lim ≤ 1099511627776) (ho : (out.length : Int) ≤ max 0 lim)
    (h1 : s.st = 1) (h2 : s.last = last) (h3 : s.bits = bits) (h4 : s.hist = out) (h5 : Reach lim s0 s) :
    Calls Tryz.prog 46 #[.pointer (some ⟨p, 0, none⟩)] w fun e' w' => e' = .returned (.tuple #[]) ∧ ∃ r, Ends lim s0 last r ∧ Kept lim done kinds r ∧ Sat w' (run p lim r :: Rs) := by
  obtain ⟨bv, ov, kv, hS1⟩ := run_open hS
  obtain ⟨F, bo, bap, rfl, hle, hcm, -, -⟩ := hS1.at_ 1 _ rfl
  obtain ⟨c0, -, -, c4, -, -⟩ := run_cells hS1
  have f4 := run_froz hS1 4
  unfold maxLen at hcm
  have hle2 : bits.length ≤ bap := hle
  replace c4 : w.cell? ⟨p, 4, none⟩ = some (.int .i64 0) := c4
  replace c0 : w.cell? ⟨p, 0, none⟩ = some (.slice bo bits.length bap) := c0
  obtain ⟨N, HN⟩ : ∃ N, Hid (N = bits.length % 8) := ⟨_, Lib.hid rfl⟩
  have hN8 : N ≤ 7 := by have := HN.out; omega
  have hNv : (bits.length : Int) % 8 = (N : Int) := by rw [HN.out]; omega
  have HK0 : Hid (Kept lim done kinds ⟨bits, out, 2, done, kinds⟩) := ⟨rfl, rfl, ho⟩
  by_cases hl : bits.length < N + 32
  · have hd : decide (bits.length < N + 32) = true := decide_eq_true hl
    have hdI : decide ((bits.length : Int) < (N : Int) + 32) = true := decide_eq_true (by omega)
    have hE : Ends lim s0 last ⟨bits, out, 2, done, kinds⟩ := size_short (r := ⟨bits, out, 0, done, kinds⟩) (last := last) h1 h3 h4 h5 (by rw [← HN.out]; exact hl)
    have HE := Lib.hid hE
    have H1 := Lib.hid (run_shut (Rs := Rs) (run_set (r' := ⟨bits, out, 2, done, kinds⟩) (v := .int .i64 2) hS1 4 rfl))
    clear hS hS1 hle ho h1 h2 h3 h4 h5 hE
    go_enter Tryz.func46, Tryz.ntmps46
    go_wp2
    ((try simp only [Exit.inBlock, Exit.then]); refine bodyPost_ret (results_none rfl _ _ _) rfl ?_)
    exact ⟨rfl, _, HE.out, HK0.out, H1.out⟩
  · have hdI : decide ((bits.length : Int) < (N : Int) + 32) = false := decide_eq_false (by omega)
    have hd : decide (bits.length < N + 32) = false := decide_eq_false hl
    obtain ⟨l, Hl⟩ : ∃ l, Hid (l = bits.drop N) := ⟨_, Lib.hid rfl⟩
    have hll : 32 ≤ l.length := by rw [Hl.out, List.length_drop]; omega
    obtain ⟨k, Hk⟩ : ∃ k, Hid (k = num (l.take 16)) := ⟨_, Lib.hid rfl⟩
    obtain ⟨m, Hm⟩ : ∃ m, Hid (m = num ((l.drop 16).take 16)) := ⟨_, Lib.hid rfl⟩
    obtain ⟨l2, Hl2⟩ : ∃ l2, Hid (l2 = (l.drop 16).drop 16) := ⟨_, Lib.hid rfl⟩
    have hk : k < 65536 := by rw [Hk.out]; exact num_take_lt _ _ 16 (by omega)
    have hm : m < 65536 := by rw [Hm.out]; exact num_take_lt _ _ 16 (by omega)
    have hsz := size_go (r := ⟨bits, out, 0, done, kinds⟩) (last := last) h1 h2 h3 h4 h5 (by rw [← HN.out]; exact hl) l (by rw [Hl.out, HN.out])
    rw [← Hk.out, ← Hm.out, ← Hl2.out] at hsz
    have Hsz := Lib.hid hsz
    have Ht1 : Hid (Calls Tryz.prog 45 #[.pointer (some ⟨p, 0, none⟩), .int .i64 N] w fun e' w' => ∃ v : Int, e' = .returned (.int .i64 v) ∧ Sat w' (run p lim ⟨l, out, 0, done, kinds⟩ :: Rs)) := by
      have h := take_any hS N (by omega)
      rw [takeS_k (r := ⟨bits, out, 0, done, kinds⟩) (n := N) rfl (by show N ≤ bits.length; omega), ← Hl.out] at h
      exact h.mono fun e w' h => ⟨_, h.1, h.2⟩
    have Ht2 : Hid (∀ w1, Sat w1 (run p lim ⟨l, out, 0, done, kinds⟩ :: Rs) → Calls Tryz.prog 45 #[.pointer (some ⟨p, 0, none⟩), .int .i64 16] w1 fun e' w' => e' = .returned (.int .i64 (k : Nat)) ∧ Sat w' (run p lim ⟨l.drop 16, out, 0, done, kinds⟩ :: Rs)) := by
      intro w1 h
      have h := take_any h 16 (by omega)
      rw [takeS_k (r := ⟨l, out, 0, done, kinds⟩) (n := 16) rfl (by show 16 ≤ l.length; omega), takeV_k (r := ⟨l, out, 0, done, kinds⟩) (n := 16) rfl (by show 16 ≤ l.length; omega), ← Hk.out] at h
      exact h
    have Ht3 : Hid (∀ w1, Sat w1 (run p lim ⟨l.drop 16, out, 0, done, kinds⟩ :: Rs) → Calls Tryz.prog 45 #[.pointer (some ⟨p, 0, none⟩), .int .i64 16] w1 fun e' w' => e' = .returned (.int .i64 (m : Nat)) ∧ Sat w' (run p lim ⟨l2, out, 0, done, kinds⟩ :: Rs)) := by
      intro w1 h
      have h := take_any h 16 (by omega)
      have hl16 : 16 ≤ (l.drop 16).length := by rw [List.length_drop]; omega
      rw [takeS_k (r := ⟨l.drop 16, out, 0, done, kinds⟩) (n := 16) rfl hl16, takeV_k (r := ⟨l.drop 16, out, 0, done, kinds⟩) (n := 16) rfl hl16, ← Hm.out, ← Hl2.out] at h
      exact h
    have HK1 : Hid (∀ e b, Kept lim done kinds ⟨b, out, e, done, kinds⟩) := fun e b => ⟨rfl, rfl, ho⟩
    clear hS hS1 hle ho h1 h2 h3 h4 h5 hsz c4 f4 hll HK0 hl
    by_cases hkm : m = 65535 - k
    · have hne : ((m : Int) != 65535 - (k : Int)) = false := by
        rw [bne_eq_false_iff_eq]; omega
      have hat := Hsz.out.2 ((xor_iff hk).2 hkm)
      have Hat := Lib.hid hat
      clear hat hkm Hsz
      go_enter Tryz.func46, Tryz.ntmps46
      go_wp2_with (first
        | (go_at_call 45; refine Ht1.out.mono ?_; rintro e' w1 ⟨v1, rfl, hS1⟩; have H2 := Lib.hid (Ht2.out _ hS1); clear Ht1 Ht2 hS1)
        | (go_at_call 45; refine H2.out.mono ?_; rintro e' w2 ⟨rfl, hS2⟩; have H3 := Lib.hid (Ht3.out _ hS2); clear H2 Ht3 hS2)
        | (go_at_call 45; refine H3.out.mono ?_; rintro e' w3 ⟨rfl, hS3⟩; have H4 := fail_any hS3 false 8; rw [failS_n] at H4; have H4 := Lib.hid H4; clear H3 hS3)
        | (go_at_call 78; refine H4.out.mono ?_; rintro e' w4 ⟨rfl, hS4⟩; clear H4))
      go_loopw [4] (fun i wr => ∃ (j : Nat) (r : RunS), j ≤ k ∧ i = .int .i64 j ∧ Hid ((r.e = 0 ∧ ∃ t, AtRaw lim s0 last (k - j) r t) ∨ (r.e ≠ 0 ∧ Ends lim s0 last r)) ∧ Hid (Kept lim done kinds r) ∧ Sat wr (run p lim r :: Rs)) (fun i _ => k - (intOf i).toNat)
      case atStart => exact ⟨0, _, by omega, rfl, .inl ⟨rfl, Hat.out⟩, HK1.out 0 l2, hS4⟩
      case round =>
        obtain ⟨j, ⟨b, o, e, dn, ks⟩, hj, rfl, HR, HKj, hS5⟩ := hrel
        have q4 := run_e hS5
        have HS5 := Lib.hid hS5
        clear hS4 hS5 c0
        rcases HR.out with ⟨he, t, hat⟩ | ⟨he, hE⟩
        · replace he : e = 0 := he
          subst he
          replace q4 : wr.cell? ⟨p, 4, none⟩ = some (.int .i64 0) := q4
          have Hat2 := Lib.hid hat
          clear hat HR Hat
          by_cases hjk : j < k
          · have hdj : decide (j < k) = true := decide_eq_true hjk
            obtain ⟨q, Hq⟩ : ∃ q, Hid (k - j = q + 1) := ⟨k - j - 1, by unfold Hid; omega⟩
            rw [Hq.out] at Hat2
            by_cases h8 : b.length < 8
            · have htk := take_any HS5.out 8 (by omega)
              rw [takeS_s (r := ⟨b, o, 0, dn, ks⟩) (n := 8) rfl h8, takeV_s (r := ⟨b, o, 0, dn, ks⟩) (n := 8) rfl h8] at htk
              have Htk := Lib.hid htk
              have hE := Hat2.out.short (r := ⟨b, o, 0, dn, ks⟩) h8
              have HE := Lib.hid hE
              clear htk hE
              go_wp2_with (go_at_call 45; refine Htk.out.mono ?_; rintro e' w6 ⟨rfl, hS6⟩; have q6 := run_e hS6; replace q6 : w6.cell? ⟨p, 4, none⟩ = some (.int .i64 2) := q6; have HS6 := Lib.hid hS6; clear hS6 Htk)
              exact ⟨⟨j + 1, ⟨b, o, 2, dn, ks⟩, by omega, vi (by omega), .inr ⟨by show (2 : Nat) ≠ 0; omega, HE.out⟩, HKj.out, HS6.out⟩, by simp [intOf]; omega⟩
            · have h8' : 8 ≤ b.length := by omega
              have htk := take_any HS5.out 8 (by omega)
              rw [takeS_k (r := ⟨b, o, 0, dn, ks⟩) (n := 8) rfl h8', takeV_k (r := ⟨b, o, 0, dn, ks⟩) (n := 8) rfl h8'] at htk
              obtain ⟨c, Hc⟩ : ∃ c, Hid (num (b.take 8) = c) := ⟨_, Lib.hid rfl⟩
              have hc : c < 256 := by rw [← Hc.out]; exact num_take_lt _ _ 8 (by omega)
              replace htk : Calls Tryz.prog 45 #[.pointer (some ⟨p, 0, none⟩), .int .i64 8] wr fun e' w' => e' = .returned (.int .i64 (c : Nat)) ∧ Sat w' (run p lim ⟨b.drop 8, o, 0, dn, ks⟩ :: Rs) := by rw [← Hc.out]; exact htk
              have Htk := Lib.hid htk
              have hol : o.length ≤ 140737488355000 := by have h := HKj.out.2.2; have h : (o.length : Int) ≤ max 0 lim := h; omega
              have Htl : Hid (∀ w1, Sat w1 (run p lim ⟨b.drop 8, o, 0, dn, ks⟩ :: Rs) → Calls Tryz.prog 79 #[.pointer (some ⟨p, 0, none⟩), .int .u8 (c : Nat)] w1 fun e' w' => e' = .returned (.tuple #[]) ∧ Sat w' (run p lim (RunS.tellS ⟨b.drop 8, o, 0, dn, ks⟩ lim (UInt8.ofNat c)) :: Rs)) := by
                intro w1 h
                have h := tell_run h (UInt8.ofNat c) hol
                rw [show (UInt8.ofNat c).toNat = c by rw [UInt8.toNat_ofNat']; omega] at h
                exact h
              clear htk hol
              by_cases hlm : lim ≤ (o.length : Int)
              · have hE := Hat2.out.bad (r := ⟨b, o, 0, dn, ks⟩) h8' hlm
                have HE := Lib.hid hE
                rw [tellS_l (r := ⟨b.drop 8, o, 0, dn, ks⟩) _ rfl hlm] at Htl
                clear hE hlm
                go_wp2_with (first
                  | (go_at_call 45; refine Htk.out.mono ?_; rintro e' w6 ⟨rfl, hS6⟩; have q6 := run_e hS6; replace q6 : w6.cell? ⟨p, 4, none⟩ = some (.int .i64 0) := q6; have Htl2 := Lib.hid (Htl.out _ hS6); clear hS6 Htk Htl)
                  | (go_at_call 79; refine Htl2.out.mono ?_; rintro e' w7 ⟨rfl, hS7⟩; have HS7 := Lib.hid hS7; clear hS7 Htl2))
                exact ⟨⟨j + 1, ⟨b.drop 8, o, 9, dn, ks⟩, by omega, vi (by omega), .inr ⟨by show (9 : Nat) ≠ 0; omega, HE.out⟩, HKj.out, HS7.out⟩, by simp [intOf]; omega⟩
              · have hE := Hat2.out.next (r := ⟨b, o, 0, dn, ks⟩) h8' hlm
                have HE := Lib.hid hE
                rw [tellS_k (r := ⟨b.drop 8, o, 0, dn, ks⟩) _ rfl hlm] at Htl
                have HKn : Hid (Kept lim done kinds ⟨b.drop 8, o ++ [UInt8.ofNat c], 0, dn, ks⟩) := ⟨HKj.out.1, HKj.out.2.1, by show ((o ++ [_]).length : Int) ≤ _; rw [List.length_append, List.length_singleton]; omega⟩
                clear hE hlm
                go_wp2_with (first
                  | (go_at_call 45; refine Htk.out.mono ?_; rintro e' w6 ⟨rfl, hS6⟩; have q6 := run_e hS6; replace q6 : w6.cell? ⟨p, 4, none⟩ = some (.int .i64 0) := q6; have Htl2 := Lib.hid (Htl.out _ hS6); clear hS6 Htk Htl)
                  | (go_at_call 79; refine Htl2.out.mono ?_; rintro e' w7 ⟨rfl, hS7⟩; have HS7 := Lib.hid hS7; clear hS7 Htl2))
                refine ⟨⟨j + 1, ⟨b.drop 8, o ++ [UInt8.ofNat c], 0, dn, ks⟩, by omega, vi (by omega), .inl ⟨rfl, ?_⟩, HKn.out, HS7.out⟩, by simp [intOf]; omega⟩
                have h9 := HE.out
                have h10 := Hq.out
                rw [show k - (j + 1) = q by omega]
                rw [← Hc.out]
                exact h9
          · have hdj : decide (j < k) = false := decide_eq_false hjk
            rw [show k - j = 0 by omega] at Hat2
            have HE := Lib.hid (Hat2.out.close rfl)
            go_wp2
            go_end0
            exact ⟨rfl, _, HE.out, HKj.out, HS5.out⟩
        · replace he : e ≠ 0 := he
          have heI : ((e : Int) == 0) = false := beq_eq_false_iff_ne.2 (by omega)
          have HE := Lib.hid hE
          clear hE HR Hat
          by_cases hjk : j < k
          · have hdj : decide (j < k) = true := decide_eq_true hjk
            go_wp2
            go_end0
            exact ⟨rfl, _, HE.out, HKj.out, HS5.out⟩
          · have hdj : decide (j < k) = false := decide_eq_false hjk
            go_wp2
            go_end0
            exact ⟨rfl, _, HE.out, HKj.out, HS5.out⟩
    · have hne : ((m : Int) != 65535 - (k : Int)) = true := by
        rw [bne_iff_ne]; omega
      have hE := Hsz.out.1 (fun h => hkm ((xor_iff hk).1 h))
      have HE := Lib.hid hE
      clear hE Hsz hkm
      go_enter Tryz.func46, Tryz.ntmps46
      go_wp2_with (first
        | (go_at_call 45; refine Ht1.out.mono ?_; rintro e' w1 ⟨v1, rfl, hS1⟩; have H2 := Lib.hid (Ht2.out _ hS1); clear Ht1 Ht2 hS1)
        | (go_at_call 45; refine H2.out.mono ?_; rintro e' w2 ⟨rfl, hS2⟩; have H3 := Lib.hid (Ht3.out _ hS2); clear H2 Ht3 hS2)
        | (go_at_call 45; refine H3.out.mono ?_; rintro e' w3 ⟨rfl, hS3⟩; have H4 := fail_any hS3 true 8; rw [failS_y (r := ⟨l2, out, 0, done, kinds⟩) 8 rfl] at H4; have H4 := Lib.hid H4; clear H3 hS3)
        | (go_at_call 78; refine H4.out.mono ?_; rintro e' w4 ⟨rfl, hS4⟩; have q4 := run_e hS4; replace q4 : w4.cell? ⟨p, 4, none⟩ = some (.int .i64 8) := q4; have HS4 := Lib.hid hS4; clear H4 hS4))
      go_loopw [4] (fun i wr => i = .int .i64 0 ∧ wr = w4) (fun _ _ => 0)
      case atStart => exact ⟨rfl, rfl⟩
      case round =>
        obtain ⟨rfl, rfl⟩ := hrel
        cases hk0 : decide (0 < k)
        all_goals
          go_wp2
          go_end0
          exact ⟨rfl, _, HE.out, HK1.out _ _, HS4.out⟩

end Go.Proofs.YtdpocnkeokplpaaGreat
