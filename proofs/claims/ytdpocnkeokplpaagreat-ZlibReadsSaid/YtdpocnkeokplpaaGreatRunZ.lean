/- The document's inflate: all of it. -/
import Derived.Test.YtdpocnkeokplpaaGreatRunD
import Derived.Test.YtdpocnkeokplpaaGreatRunY
namespace Go.Proofs.YtdpocnkeokplpaaGreat
open Go.RowKit Go.Hal
set_option linter.unusedVariables false
set_option linter.unusedSimpArgs false

/-- How the document's run stands at its end. -/
def FinalR (lim : Int) (s0 : DS) (r : RunS) : Prop :=
  (r.done = true ∧ r.e = 0 ∧ ∃ s, Runs lim s0 (.ok s) ∧ s.st = 12 ∧ s.hist = r.out ∧ s.bits = r.bits.drop (r.bits.length % 8)) ∨
  (r.done = false ∧ r.e = 2 ∧ ∃ s, Runs lim s0 (.ok s) ∧ s.st ≠ 12 ∧ s.hist = r.out) ∨ (r.done = false ∧ r.e ≠ 0 ∧ r.e ≠ 2 ∧ Runs lim s0 (.bad r.out r.e))
/-- .. ahead of a block, or at its end. -/
def OfI (lim : Int) (s0 : DS) (r : RunS) : Prop := (r.e = 0 ∧ r.done = false ∧ ∃ s, s.st = 0 ∧ s.bits = r.bits ∧ s.hist = r.out ∧ Reach lim s0 s) ∨ FinalR lim s0 r
def OfM (r : RunS) : Nat := if r.e = 0 ∧ r.done = false then r.bits.length + 1 else 0

theorem after_block {lim : Int} {s0 t : DS} {last : Bool} {r : RunS} {X : Bool} (h : Ends lim t last r) (hr : Reach lim s0 t) (hX : X = (last && r.e == 0)) (hd : r.done = false) : OfI lim s0 { r with done := X } ∧ OfM { r with done := X } ≤ t.bits.length + 1 := by
  obtain ⟨h0, h2, h3⟩ := h
  by_cases e0 : r.e = 0
  · obtain ⟨s, c1, c2, c3, c4⟩ := h0 e0
    have hlen : (closedD s).bits.length ≤ t.bits.length := c4.bits
    cases last
    · have hX2 : X = false := by rw [hX]; rfl
      have hc : closedD s = { s with st := 0 } := by unfold closedD; rw [c1]; rfl
      rw [hc] at c4 hlen
      subst hX2
      refine ⟨.inl ⟨e0, rfl, { s with st := 0 }, rfl, c2, c3, hr.trans c4⟩, ?_⟩
      unfold OfM
      rw [if_pos ⟨e0, rfl⟩]
      show r.bits.length + 1 ≤ _
      have hlen2 : s.bits.length ≤ t.bits.length := hlen
      rw [c2] at hlen2
      omega
    · have hX2 : X = true := by rw [hX, e0]; rfl
      have hc : closedD s = { s with st := 12, bits := s.bits.drop (s.bits.length % 8) } := by unfold closedD; rw [c1]; rfl
      rw [hc] at c4
      subst hX2
      refine ⟨.inr (.inl ⟨rfl, e0, _, (hr.trans c4).stop ?_, rfl, c3, by show s.bits.drop (s.bits.length % 8) = _; rw [c2]⟩), ?_⟩
      · unfold dstep; rfl
      · unfold OfM
        rw [if_neg (fun h => by cases h.2)]
        omega
  · have hX2 : X = false := by
      rw [hX]
      have : (r.e == 0) = false := beq_eq_false_iff_ne.2 e0
      rw [this, Bool.and_false]
    subst hX2
    refine ⟨.inr ?_, ?_⟩
    · by_cases e2 : r.e = 2
      · obtain ⟨s, c1, c2, c3⟩ := h2 e2
        exact .inr (.inl ⟨rfl, e2, s, hr.run _ c1, c3, c2⟩)
      · exact .inr (.inr ⟨rfl, e0, e2, hr.run _ (h3 e0 e2)⟩)
    · unfold OfM
      rw [if_neg (fun h => e0 h.1)]
      omega
theorem num3 (l : List Bool) : num (l.take 1) = num (l.take 3) % 2 ∧ num ((l.drop 1).take 2) = num (l.take 3) / 2 := by
  rw [num_take, num_take, num_take, num_drop]
  generalize num l = N
  rw [show (2 ^ 1 : Nat) = 2 by rfl, show (2 ^ 2 : Nat) = 4 by rfl, show (2 ^ 3 : Nat) = 8 by rfl]
  omega
section
variable {lim : Int} {s0 s : DS} {b : List Bool} {o : List UInt8}
theorem head_at (h1 : s.st = 0) : dstep lim s = takeD 3 s headD := by unfold dstep; rw [h1]; rfl
theorem head_short (h1 : s.st = 0) (hb : s.bits = b) (hr : Reach lim s0 s) (hl : b.length < 3) : Runs lim s0 (.ok s) := by
  refine hr.stop ?_
  rw [head_at h1]
  unfold takeD
  rw [if_pos (by rw [hb]; exact hl)]
theorem head_go (h1 : s.st = 0) (hb : s.bits = b) (hh : s.hist = o) (hr : Reach lim s0 s) (hl : 3 ≤ b.length) (V : Nat) (hV : V = num (b.take 3)) :
    (V / 2 = 0 → ∃ t, t.st = 1 ∧ t.last = (V % 2 == 1) ∧ t.bits = b.drop 3 ∧ t.hist = o ∧ Reach lim s0 t) ∧ (V / 2 = 1 → ∃ t, t.st = 7 ∧ t.last = (V % 2 == 1) ∧ t.lit = some fixL ∧ t.way = some fixD ∧ t.bits = b.drop 3 ∧ t.hist = o ∧ Reach lim s0 t) ∧
    (V / 2 = 2 → ∃ t, t.st = 3 ∧ t.last = (V % 2 == 1) ∧ t.bits = b.drop 3 ∧ t.hist = o ∧ Reach lim s0 t) ∧ (V / 2 ≠ 0 → V / 2 ≠ 1 → V / 2 ≠ 2 → Runs lim s0 (.bad o 3)) := by
  have hs := head_at (lim := lim) h1
  unfold takeD at hs
  rw [if_neg (by rw [hb]; omega), hb, ← hV] at hs
  unfold headD at hs
  refine ⟨fun h => ?_, fun h => ?_, fun h => ?_, fun g0 g1 g2 => ?_⟩
  · rw [if_pos h] at hs
    refine ⟨_, ?_, ?_, ?_, ?_, hr.step hs⟩
    · rfl
    · rfl
    · rfl
    · exact hh
  · rw [if_neg (by omega), if_pos h] at hs
    refine ⟨_, ?_, ?_, ?_, ?_, ?_, ?_, hr.step hs⟩
    · rfl
    · rfl
    · rfl
    · rfl
    · rfl
    · exact hh
  · rw [if_neg (by omega), if_neg (by omega), if_pos h] at hs
    refine ⟨_, ?_, ?_, ?_, ?_, hr.step hs⟩
    · rfl
    · rfl
    · rfl
    · exact hh
  · rw [if_neg g0, if_neg g1, if_neg g2] at hs
    have := hr.bad hs
    rw [← hh]
    exact this
end
theorem run_done {w : World} {p : Nat} {lim : Int} {b : List Bool} {o : List UInt8} {e : Nat} {dn : Bool} {ks : List Int} {Rs : List Res} (hS : Sat w (run p lim ⟨b, o, e, dn, ks⟩ :: Rs)) :
    w.cell? ⟨p, 4, none⟩ = some (.int .i64 (e : Nat)) ∧ w.cell? ⟨p, 5, none⟩ = some (.bool dn) ∧ w.frozen? ⟨p, 5, none⟩ = false ∧ ∀ x, Sat (w.setCell ⟨p, 5, none⟩ (.bool x)) (run p lim ⟨b, o, e, x, ks⟩ :: Rs) := by
  obtain ⟨bv, ov, kv, hS1⟩ := run_open hS
  obtain ⟨-, -, -, c4, c5, -⟩ := run_cells hS1
  exact ⟨c4, c5, run_froz hS1 5, fun x => run_shut (run_set (r' := ⟨b, o, e, x, ks⟩) (v := .bool x) hS1 5 rfl)⟩
theorem fix_lens : fixL.length = 288 ∧ fixD.length = 32 ∧ (∀ x ∈ fixL, x ≤ 15) ∧ ∀ x ∈ fixD, x ≤ 15 := by decide +kernel

/-- What `Of` comes to. -/
def OfP (lim : Int) (ys : List UInt8) (Rs : List Res) (e' : Ending) (w' : World) : Prop :=
  ∃ p r, e' = .returned (.pointer (some ⟨p, 0, none⟩)) ∧ FinalR lim (ds0.more (bitsOf ys)) r ∧ (r.out.length : Int) ≤ max 0 lim ∧ Sat w' (run p lim r :: Rs)

set_option maxRecDepth 100000 in
set_option maxHeartbeats 8000000 in
theorem of_run {w : World} {lim : Int} {Rs : List Res} (hS : Sat w Rs) (hlim : lim ≤ 1099511627776) {v : Value} {ys : List UInt8} (hv : ∀ w', Sat w' Rs → SlR w' 5 1 ys.length v (ys.map byteV)) (hy : ys.length ≤ 4194304) :
    Calls Tryz.prog 19 #[v, .int .i64 lim] w (OfP lim ys Rs) := by
  have HB := Lib.hid (refBits_any hS v ys hv hy)
  obtain ⟨B, HBq⟩ : ∃ B, Hid (B = bitsOf ys) := ⟨_, Lib.hid rfl⟩
  have hBl : B.length ≤ 1099511627776 := by rw [HBq.out, bitsOf_length]; omega
  rw [← HBq.out] at HB
  obtain ⟨ao, cap, rfl, -, -, -, -⟩ := hv w hS
  have Hlim := Lib.hid hlim
  have Hy := Lib.hid hy
  obtain ⟨S0, HS0⟩ : ∃ S0, Hid (S0 = ds0.more B) := ⟨_, Lib.hid rfl⟩
  clear hv hS hlim hy
  go_enter Tryz.func19, Tryz.ntmps19
  go_wp2_with (go_at_call 44; refine HB.out.mono ?_; rintro e' w1 ⟨lv, rfl, hS1⟩; obtain ⟨_, lo, lcap, rfl, -, -, -, -⟩ := hS1.at_ 0 _ rfl; have H2 := Lib.hid (((hS1.alloc (.cells #[.slice lo B.length lcap, .int .i64 0, .slice none 0 0, .int .i64 lim, .int .i64 0, .bool false, .slice none 0 0] 47)).sl_nil 5 1 none).sl_nil 3 1 none); clear hS1 HB)
  have H3 : Hid (Sat (w1.alloc (.cells #[.slice lo B.length lcap, .int .i64 0, .slice none 0 0, .int .i64 lim, .int .i64 0, .bool false, .slice none 0 0] 47)) (run w1.heap.size lim ⟨B, [], 0, false, []⟩ :: Rs)) :=
    run_shut (r := ⟨B, [], 0, false, []⟩) (bv := .slice lo B.length lcap) (ov := .slice none 0 0) (kv := .slice none 0 0) (Sat.perm (As := [_, _, _, _]) H2.out [2, 3, 1, 0] [_, _, _, _] rfl (by simp))
  generalize w1.heap.size = p at H3 ⊢
  generalize w1.alloc (.cells #[.slice lo B.length lcap, .int .i64 0, .slice none 0 0, .int .i64 lim, .int .i64 0, .bool false, .slice none 0 0] 47) = W at H3 ⊢
  clear H2
  obtain ⟨nb, Hnb⟩ : ∃ nb, Hid (nb = B.length) := ⟨_, Lib.hid rfl⟩
  have hnb : nb ≤ 1099511627776 := by rw [Hnb.out]; exact hBl
  have Hnb2 := Lib.hid hnb
  have HI : Hid (OfI lim S0 ⟨B, [], 0, false, []⟩) := .inl ⟨rfl, rfl, S0, by rw [HS0.out]; rfl, by rw [HS0.out]; rfl, by rw [HS0.out]; rfl, Reach.refl _ _⟩
  obtain ⟨i1, hi1, hy0, hy1, hy2⟩ := info_parts Tryz.infoIntW
  clear hnb hBl
  go_loopg [] (nb + 1) (fun g wr => ∃ r : RunS, OfM r ≤ g ∧ r.kinds.length + OfM r ≤ nb + 1 ∧ Hid (OfI lim S0 r) ∧ Hid ((r.out.length : Int) ≤ max 0 lim) ∧ Hid (Sat wr (run p lim r :: Rs)))
  case atStart => exact ⟨_, by unfold OfM; rw [if_pos ⟨rfl, rfl⟩, Hnb.out]; exact Nat.le_refl _, by unfold OfM; rw [if_pos ⟨rfl, rfl⟩, Hnb.out]; show 0 + (B.length + 1) ≤ _; omega, HI.out, by show ((0 : Nat) : Int) ≤ _; omega, H3.out⟩
  case round =>
    obtain ⟨⟨b, o, e, dn, ks⟩, hg, hbb, HR, Ho, HS5⟩ := hrel
    obtain ⟨q4, q5, -, -⟩ := run_done HS5.out
    clear HI H3
    rcases HR.out with ⟨he, hdn, s, hs0, hsb, hsh, hsr⟩ | hfin
    rotate_left
    · have HF := Lib.hid hfin
      rcases hfin with ⟨h1, h2, -⟩ | ⟨h1, h2, -⟩ | ⟨h1, h2, h3, -⟩
      · replace h1 : dn = true := h1
        replace h2 : e = 0 := h2
        subst h1
        subst h2
        replace q4 : wr.cell? ⟨p, 4, none⟩ = some (.int .i64 0) := q4
        clear hg HR hbb
        go_wp2
        go_ret
        exact ⟨p, _, rfl, by rw [← HBq.out, ← HS0.out]; exact HF.out, Ho.out, HS5.out⟩
      · replace h1 : dn = false := h1
        replace h2 : e = 2 := h2
        subst h1
        subst h2
        replace q4 : wr.cell? ⟨p, 4, none⟩ = some (.int .i64 2) := q4
        clear hg HR hbb
        go_wp2
        go_ret
        exact ⟨p, _, rfl, by rw [← HBq.out, ← HS0.out]; exact HF.out, Ho.out, HS5.out⟩
      · replace h2 : e ≠ 0 := h2
        have heI : ((e : Int) == 0) = false := beq_eq_false_iff_ne.2 (by omega)
        clear hg HR h1 h3 hbb
        go_wp2
        go_ret
        exact ⟨p, _, rfl, by rw [← HBq.out, ← HS0.out]; exact HF.out, Ho.out, HS5.out⟩
    replace he : e = 0 := he
    replace hdn : dn = false := hdn
    subst he
    subst hdn
    replace q4 : wr.cell? ⟨p, 4, none⟩ = some (.int .i64 0) := q4
    replace hg : b.length + 1 ≤ gk := by
      unfold OfM at hg
      rw [if_pos ⟨rfl, rfl⟩] at hg
      exact hg
    have hkb : ks.length + (b.length + 1) ≤ nb + 1 := by
      unfold OfM at hbb
      rw [if_pos ⟨rfl, rfl⟩] at hbb
      exact hbb
    have Hkb := Lib.hid hkb
    have Hg := Lib.hid hg
    clear hbb
    obtain ⟨bv, ov, kv, hS6⟩ := run_open HS5.out
    obtain ⟨_, bo, bap, rfl, hbap, -, -, -⟩ := hS6.at_ 1 _ rfl
    have q0 : wr.cell? ⟨p, 0, none⟩ = some (.slice bo b.length bap) := (run_cells hS6).1
    have f4 := run_froz hS6 4
    by_cases hl : b.length < 3
    · have hlI : decide ((b.length : Int) < 3) = true := decide_eq_true (by omega)
      have HF : Hid (FinalR lim S0 ⟨b, o, 2, false, ks⟩) := .inr (.inl ⟨rfl, rfl, s, head_short hs0 hsb hsr hl, by rw [hs0]; decide, hsh⟩)
      have H7 := Lib.hid (run_shut (Rs := Rs) (run_set (r := ⟨b, o, 0, false, ks⟩) (r' := ⟨b, o, 2, false, ks⟩) (v := .int .i64 2) hS6 4 rfl))
      clear hS6 hsb hsh hsr hs0 hg HR hbap hkb
      go_wp2
      go_ret
      exact ⟨p, _, rfl, by rw [← HBq.out, ← HS0.out]; exact HF.out, Ho.out, H7.out⟩
    have hlI : decide ((b.length : Int) < 3) = false := decide_eq_false (by omega)
    have hl3 : 3 ≤ b.length := by omega
    obtain ⟨V, HV⟩ : ∃ V, Hid (V = num (b.take 3)) := ⟨_, Lib.hid rfl⟩
    have hV8 : V < 8 := by rw [HV.out]; exact num_take_lt _ _ 3 (by omega)
    obtain ⟨n1, n2⟩ := num3 b
    rw [← HV.out] at n1 n2
    obtain ⟨l1, Hl1⟩ : ∃ l1, Hid (l1 = V % 2) := ⟨_, Lib.hid rfl⟩
    obtain ⟨kd, Hkd⟩ : ∃ kd, Hid (kd = V / 2) := ⟨_, Lib.hid rfl⟩
    rw [← Hl1.out] at n1
    rw [← Hkd.out] at n2
    have hl1 : l1 ≤ 1 := by rw [Hl1.out]; omega
    have hkd : kd ≤ 3 := by rw [Hkd.out]; omega
    obtain ⟨b3, Hb3⟩ : ∃ b3, Hid (b3 = b.drop 3) := ⟨_, Lib.hid rfl⟩
    have hb3 : b3.length = b.length - 3 := by rw [Hb3.out, List.length_drop]
    have hgo := head_go hs0 hsb hsh hsr hl3 V HV.out
    rw [← Hkd.out, ← Hb3.out, ← Hl1.out] at hgo
    have Hgo := Lib.hid hgo
    have Ht1 : Hid (Calls Tryz.prog 45 #[.pointer (some ⟨p, 0, none⟩), .int .i64 1] wr fun e' w' => e' = .returned (.int .i64 (l1 : Nat)) ∧ Sat w' (run p lim ⟨b.drop 1, o, 0, false, ks⟩ :: Rs)) := by
      have h := take_any HS5.out 1 (by omega)
      rw [takeS_k (r := ⟨b, o, 0, false, ks⟩) (n := 1) rfl (by show 1 ≤ b.length; omega), takeV_k (r := ⟨b, o, 0, false, ks⟩) (n := 1) rfl (by show 1 ≤ b.length; omega)] at h
      simp only [n1] at h
      exact h
    have Ht2 : Hid (∀ w1, Sat w1 (run p lim ⟨b.drop 1, o, 0, false, ks⟩ :: Rs) → Calls Tryz.prog 45 #[.pointer (some ⟨p, 0, none⟩), .int .i64 2] w1 fun e' w' => e' = .returned (.int .i64 (kd : Nat)) ∧ Sat w' (run p lim ⟨b3, o, 0, false, ks⟩ :: Rs)) := by
      intro w1 h
      have h := take_any h 2 (by omega)
      have h9 : 2 ≤ (b.drop 1).length := by rw [List.length_drop]; omega
      rw [takeS_k (r := ⟨b.drop 1, o, 0, false, ks⟩) (n := 2) rfl h9, takeV_k (r := ⟨b.drop 1, o, 0, false, ks⟩) (n := 2) rfl h9] at h
      simp only [n2] at h
      rw [Hb3.out, show b.drop 3 = (b.drop 1).drop 2 by rw [List.drop_drop]]
      exact h
    obtain ⟨KS, HKS⟩ : ∃ KS : List Int, Hid (KS = ks ++ [(kd : Int)]) := ⟨_, Lib.hid rfl⟩
    have Hks : Hid (ks.length ≤ 1099511627776) := by have := Hnb2.out; unfold Hid; omega
    clear hS6 hsb hsh hsr hs0 hg HR hgo n1 n2 hbap hl hV8
    have Hb3l : Hid (b3.length + 3 = b.length) := by unfold Hid; omega
    have Hb60 : Hid (b3.length ≤ 1099511627776) := by have := Hnb2.out; have := Hkb.out; unfold Hid; omega
    clear hb3 HKS
    rcases (by omega : l1 = 0 ∨ l1 = 1) with h | h
    · subst h
      rcases (by omega : kd = 0 ∨ kd = 1 ∨ kd = 2 ∨ kd = 3) with h | h | h | h
      · subst h
        have l1I : (((0 : Nat) : Int) == 1) = false := by decide
        obtain ⟨t9, ta, tb, tc, td, hr9⟩ := Hgo.out.1 rfl
        have Hst : Hid (∀ w1, Sat w1 (run p lim ⟨b3, o, 0, false, ks ++ [(0 : Int)]⟩ :: Rs) → Calls Tryz.prog 46 #[.pointer (some ⟨p, 0, none⟩)] w1 fun e' w' => e' = .returned (.tuple #[]) ∧ ∃ r, Ends lim t9 false r ∧ Kept lim false (ks ++ [(0 : Int)]) r ∧ Sat w' (run p lim r :: Rs)) :=
          fun w1 h => stored_run h Hlim.out Ho.out ta tb tc td (Reach.refl _ _)
        have Ht9 : Hid (t9.bits.length + 3 = b.length) := by unfold Hid; rw [tc]; have := Hb3l.out; omega
        clear Hgo ta tb tc td
        go_wp2_with (first
              | (go_at_call 45; refine Ht1.out.mono ?_; rintro e' w2 ⟨rfl, hS2⟩; have Ht3 := Lib.hid (Ht2.out _ hS2); clear Ht1 Ht2 hS2)
              | (go_at_call 45; refine Ht3.out.mono ?_; rintro e' w3 ⟨rfl, hS3⟩; obtain ⟨bv3, ov3, kv3, hS7⟩ := run_open hS3; obtain ⟨_, ko, kap, rfl, -, -, -, -⟩ := hS7.at_ 3 _ rfl; have q6 : w3.cell? ⟨p, 6, none⟩ = some (.slice ko ks.length kap) := (run_cells hS7).2.2.2.2.2; have hA := hS7.sl_made (e := 3) (size := 1) (n := 1) (cap := 1) (cur := #[.int .i64 0]) (xs := [.int .i64 0]) (by omega) (by decide) rfl (by simp) (fun j u hu => by simpa using hu); have Hsrc := Lib.hid (SlR.src (P := Tryz.prog) hA.sl_read Tryz.underlying45 (by simp [Value.oneCell'])); have HA2 := Lib.hid (Sat.perm (As := [_, _, _, _, _]) hA [4, 1, 2, 3] [_, _, _, _] rfl (by simp)); clear Ht3 hS3 hS7 hA q0 q4 q5 f4)
              | (at_builtin; refine wpList_append_sat _ rfl _ _ 45 45 rfl 3 i1 (.int .i64 0) 1 8 Tryz.underlying45 hi1 hy0 hy1 hy2 rfl (by decide) ks.length _ _ _ rfl HA2.out 1 _ _ rfl Hsrc.out (by have := Hks.out; unfold maxLen; omega) (by have := Hks.out; omega) ?_; intro v' w' hS8; obtain ⟨_, ko2, kap2, rfl, -, -, -, -⟩ := hS8.at_ 0 _ rfl; have h8 := Sat.perm (As := [_, _, _, _]) hS8 [1, 2, 3, 0] [_, _, _, _] rfl (by simp); have f6 : w'.frozen? ⟨p, 6, none⟩ = false := frozen_of_row w' p 6 _ _ (Sat.heap h8); have q6 : w'.cell? ⟨p, 6, none⟩ = some (.slice ko ks.length kap) := (by rw [cell_of_row w' p 6 _ _ _ (Sat.heap h8)]; rfl); have h9 := Sat.setCell (i := 6) h8 (.slice ko2 (ks.length + 1) kap2); have H9 := Lib.hid h9; have HRn : Hid (Sat (w'.setCell ⟨p, 6, none⟩ (.slice ko2 (ks.length + 1) kap2)) (run p lim ⟨b3, o, 0, false, ks ++ [(0 : Int)]⟩ :: Rs)) := (by refine run_shut (r := ⟨b3, o, 0, false, ks ++ [(0 : Int)]⟩) (bv := bv3) (ov := ov3) (kv := .slice ko2 (ks.length + 1) kap2) ?_; unfold runL; simp only [List.length_append, List.length_singleton, List.map_append, List.map_cons, List.map_nil]; exact H9.out); clear h8 h9 hS8 Hsrc HA2 H9)
              | (go_at_call 46; refine (Hst.out _ HRn.out).mono ?_; rintro e' w9 ⟨rfl, r9, hE9, hK9, hS9⟩; obtain ⟨b9, o9, e9, dn9, ks9⟩ := r9; obtain ⟨k1, k2, k3⟩ := hK9; replace k1 : dn9 = false := k1; replace k2 : ks9 = ks ++ [(0 : Int)] := k2; replace k3 : (o9.length : Int) ≤ max 0 lim := k3; subst k1; subst k2; obtain ⟨p4, p5, p6, p7⟩ := run_done hS9; have H7 := Lib.hid p7; have Hk3 := Lib.hid k3; clear p7 hS9 k3; have hX : false = (false && e9 == 0) := rfl; have Hab := Lib.hid (after_block (r := ⟨b9, o9, e9, false, ks ++ [(0 : Int)]⟩) hE9 hr9 hX rfl); clear hE9 hX; clear Hst HRn))
        all_goals
          go_wp2
          go_roundg (gk - 1)
          case measure => have := Hg.out; omega
          case rel =>
            refine ⟨⟨b9, o9, _, _, ks ++ [(0 : Int)]⟩, ?_, ?_, Hab.out.1, Hk3.out, H7.out _⟩
            · have h1 := Hab.out.2; have h2 := Ht9.out; have h3 := Hg.out; omega
            · have h1 := Hab.out.2; have h2 := Ht9.out; have h3 := Hkb.out; show (ks ++ [_]).length + _ ≤ _; rw [List.length_append, List.length_singleton]; omega
      · subst h
        have l1I : (((0 : Nat) : Int) == 1) = false := by decide
        obtain ⟨t9, ta, tb, tl, tw, tc, td, hr9⟩ := Hgo.out.2.1 rfl
        have Hsym : Hid (∀ w1 a c d f, Sat w1 (sl 3 1 288 (.slice a 288 c) ((natsV fixL).map intV) :: sl 3 1 32 (.slice d 32 f) ((natsV fixD).map intV) :: run p lim ⟨b3, o, 0, false, ks ++ [(1 : Int)]⟩ :: Rs) → Calls Tryz.prog 47 #[.pointer (some ⟨p, 0, none⟩), .slice a 288 c, .slice d 32 f] w1 fun e' w' => e' = .returned (.tuple #[]) ∧ ∃ r, Ends lim t9 false r ∧ Kept lim false (ks ++ [(1 : Int)]) r ∧ Sat w' (run p lim r :: Rs)) := by
          intro w1 a c d f h
          have h2 := Sat.perm (As := [_, _, _]) h [2, 0, 1] [_, _, _] rfl (by simp)
          refine (symbols_run (Rs := _ :: _ :: Rs) h2 Hlim.out Ho.out Hb60.out (fun w' h' => ints_nats fix_lens.1 h'.sl_read) (fun w' h' => ints_nats fix_lens.2.1 h'.tail.sl_read) (by rw [fix_lens.1]; omega) (by rw [fix_lens.2.1]; omega) fix_lens.2.2.1 fix_lens.2.2.2 (s := t9) ⟨ta, tb, tl, tw, tc, td, Reach.refl _ _⟩).mono ?_
          rintro e' w' ⟨rfl, r, h3, h4, h5⟩
          exact ⟨rfl, r, h3, h4, Sat.perm (As := [_, _, _]) h5 [0] [_] rfl (by simp)⟩
        have Ht9 : Hid (t9.bits.length + 3 = b.length) := by unfold Hid; rw [tc]; have := Hb3l.out; omega
        clear Hgo ta tb tc td tl tw
        go_wp2_with (first
              | (go_at_call 45; refine Ht1.out.mono ?_; rintro e' w2 ⟨rfl, hS2⟩; have Ht3 := Lib.hid (Ht2.out _ hS2); clear Ht1 Ht2 hS2)
              | (go_at_call 45; refine Ht3.out.mono ?_; rintro e' w3 ⟨rfl, hS3⟩; obtain ⟨bv3, ov3, kv3, hS7⟩ := run_open hS3; obtain ⟨_, ko, kap, rfl, -, -, -, -⟩ := hS7.at_ 3 _ rfl; have q6 : w3.cell? ⟨p, 6, none⟩ = some (.slice ko ks.length kap) := (run_cells hS7).2.2.2.2.2; have hA := hS7.sl_made (e := 3) (size := 1) (n := 1) (cap := 1) (cur := #[.int .i64 1]) (xs := [.int .i64 1]) (by omega) (by decide) rfl (by simp) (fun j u hu => by simpa using hu); have Hsrc := Lib.hid (SlR.src (P := Tryz.prog) hA.sl_read Tryz.underlying45 (by simp [Value.oneCell'])); have HA2 := Lib.hid (Sat.perm (As := [_, _, _, _, _]) hA [4, 1, 2, 3] [_, _, _, _] rfl (by simp)); clear Ht3 hS3 hS7 hA q0 q4 q5 f4)
              | (at_builtin; refine wpList_append_sat _ rfl _ _ 45 45 rfl 3 i1 (.int .i64 0) 1 8 Tryz.underlying45 hi1 hy0 hy1 hy2 rfl (by decide) ks.length _ _ _ rfl HA2.out 1 _ _ rfl Hsrc.out (by have := Hks.out; unfold maxLen; omega) (by have := Hks.out; omega) ?_; intro v' w' hS8; obtain ⟨_, ko2, kap2, rfl, -, -, -, -⟩ := hS8.at_ 0 _ rfl; have h8 := Sat.perm (As := [_, _, _, _]) hS8 [1, 2, 3, 0] [_, _, _, _] rfl (by simp); have f6 : w'.frozen? ⟨p, 6, none⟩ = false := frozen_of_row w' p 6 _ _ (Sat.heap h8); have q6 : w'.cell? ⟨p, 6, none⟩ = some (.slice ko ks.length kap) := (by rw [cell_of_row w' p 6 _ _ _ (Sat.heap h8)]; rfl); have h9 := Sat.setCell (i := 6) h8 (.slice ko2 (ks.length + 1) kap2); have H9 := Lib.hid h9; have HRn : Hid (Sat (w'.setCell ⟨p, 6, none⟩ (.slice ko2 (ks.length + 1) kap2)) (run p lim ⟨b3, o, 0, false, ks ++ [(1 : Int)]⟩ :: Rs)) := (by refine run_shut (r := ⟨b3, o, 0, false, ks ++ [(1 : Int)]⟩) (bv := bv3) (ov := ov3) (kv := .slice ko2 (ks.length + 1) kap2) ?_; unfold runL; simp only [List.length_append, List.length_singleton, List.map_append, List.map_cons, List.map_nil]; exact H9.out); clear h8 h9 hS8 Hsrc HA2 H9)
              | (go_at_call 48; refine (fixed_ref HRn.out).mono ?_; rintro e' w8 ⟨fa, fc, fd, ff, rfl, hS8⟩; have Hsy := Lib.hid (Hsym.out _ _ _ _ _ hS8); clear Hsym hS8 HRn)
              | (go_at_call 47; refine Hsy.out.mono ?_; rintro e' w9 ⟨rfl, r9, hE9, hK9, hS9⟩; obtain ⟨b9, o9, e9, dn9, ks9⟩ := r9; obtain ⟨k1, k2, k3⟩ := hK9; replace k1 : dn9 = false := k1; replace k2 : ks9 = ks ++ [(1 : Int)] := k2; replace k3 : (o9.length : Int) ≤ max 0 lim := k3; subst k1; subst k2; obtain ⟨p4, p5, p6, p7⟩ := run_done hS9; have H7 := Lib.hid p7; have Hk3 := Lib.hid k3; clear p7 hS9 k3; have hX : false = (false && e9 == 0) := rfl; have Hab := Lib.hid (after_block (r := ⟨b9, o9, e9, false, ks ++ [(1 : Int)]⟩) hE9 hr9 hX rfl); clear hE9 hX; clear Hsy))
        all_goals
          go_wp2
          go_roundg (gk - 1)
          case measure => have := Hg.out; omega
          case rel =>
            refine ⟨⟨b9, o9, _, _, ks ++ [(1 : Int)]⟩, ?_, ?_, Hab.out.1, Hk3.out, H7.out _⟩
            · have h1 := Hab.out.2; have h2 := Ht9.out; have h3 := Hg.out; omega
            · have h1 := Hab.out.2; have h2 := Ht9.out; have h3 := Hkb.out; show (ks ++ [_]).length + _ ≤ _; rw [List.length_append, List.length_singleton]; omega
      · subst h
        have l1I : (((0 : Nat) : Int) == 1) = false := by decide
        obtain ⟨t9, ta, tb, tc, td, hr9⟩ := Hgo.out.2.2.1 rfl
        have Htd : Hid (∀ w1, Sat w1 (run p lim ⟨b3, o, 0, false, ks ++ [(2 : Int)]⟩ :: Rs) → Calls Tryz.prog 49 #[.pointer (some ⟨p, 0, none⟩)] w1 (ToldP p lim t9 false false (ks ++ [(2 : Int)]) b3.length Rs)) :=
          fun w1 h => told_run h Ho.out Hb60.out ta tb tc td (Reach.refl _ _)
        have Ht9 : Hid (t9.bits.length + 3 = b.length) := by unfold Hid; rw [tc]; have := Hb3l.out; omega
        clear Hgo ta tb tc td
        go_wp2_with (first
              | (go_at_call 45; refine Ht1.out.mono ?_; rintro e' w2 ⟨rfl, hS2⟩; have Ht3 := Lib.hid (Ht2.out _ hS2); clear Ht1 Ht2 hS2)
              | (go_at_call 45; refine Ht3.out.mono ?_; rintro e' w3 ⟨rfl, hS3⟩; obtain ⟨bv3, ov3, kv3, hS7⟩ := run_open hS3; obtain ⟨_, ko, kap, rfl, -, -, -, -⟩ := hS7.at_ 3 _ rfl; have q6 : w3.cell? ⟨p, 6, none⟩ = some (.slice ko ks.length kap) := (run_cells hS7).2.2.2.2.2; have hA := hS7.sl_made (e := 3) (size := 1) (n := 1) (cap := 1) (cur := #[.int .i64 2]) (xs := [.int .i64 2]) (by omega) (by decide) rfl (by simp) (fun j u hu => by simpa using hu); have Hsrc := Lib.hid (SlR.src (P := Tryz.prog) hA.sl_read Tryz.underlying45 (by simp [Value.oneCell'])); have HA2 := Lib.hid (Sat.perm (As := [_, _, _, _, _]) hA [4, 1, 2, 3] [_, _, _, _] rfl (by simp)); clear Ht3 hS3 hS7 hA q0 q4 q5 f4)
              | (at_builtin; refine wpList_append_sat _ rfl _ _ 45 45 rfl 3 i1 (.int .i64 0) 1 8 Tryz.underlying45 hi1 hy0 hy1 hy2 rfl (by decide) ks.length _ _ _ rfl HA2.out 1 _ _ rfl Hsrc.out (by have := Hks.out; unfold maxLen; omega) (by have := Hks.out; omega) ?_; intro v' w' hS8; obtain ⟨_, ko2, kap2, rfl, -, -, -, -⟩ := hS8.at_ 0 _ rfl; have h8 := Sat.perm (As := [_, _, _, _]) hS8 [1, 2, 3, 0] [_, _, _, _] rfl (by simp); have f6 : w'.frozen? ⟨p, 6, none⟩ = false := frozen_of_row w' p 6 _ _ (Sat.heap h8); have q6 : w'.cell? ⟨p, 6, none⟩ = some (.slice ko ks.length kap) := (by rw [cell_of_row w' p 6 _ _ _ (Sat.heap h8)]; rfl); have h9 := Sat.setCell (i := 6) h8 (.slice ko2 (ks.length + 1) kap2); have H9 := Lib.hid h9; have HRn : Hid (Sat (w'.setCell ⟨p, 6, none⟩ (.slice ko2 (ks.length + 1) kap2)) (run p lim ⟨b3, o, 0, false, ks ++ [(2 : Int)]⟩ :: Rs)) := (by refine run_shut (r := ⟨b3, o, 0, false, ks ++ [(2 : Int)]⟩) (bv := bv3) (ov := ov3) (kv := .slice ko2 (ks.length + 1) kap2) ?_; unfold runL; simp only [List.length_append, List.length_singleton, List.map_append, List.map_cons, List.map_nil]; exact H9.out); clear h8 h9 hS8 Hsrc HA2 H9)
              | (go_at_call 49; refine (Htd.out _ HRn.out).mono ?_; rintro e' w9 ⟨ua, ub, r9, rfl, hK9, ⟨hne9, hE9, hS9⟩ | ⟨hz9, hnb9, FA, FB, t8, FR, hat8, la8, lb8, xa8, xb8, hS8, hA8, hB8⟩⟩; (all_goals (clear Htd HRn)); rotate_left; (obtain ⟨c9, d9, e8, dn8, ks8⟩ := r9; replace hz9 : e8 = 0 := hz9; subst hz9; obtain ⟨j1, j2, j3⟩ := hK9; replace j1 : dn8 = false := j1; replace j2 : ks8 = ks ++ [(2 : Int)] := j2; replace j3 : (d9.length : Int) ≤ max 0 lim := j3; subst j1; subst j2; replace hnb9 : c9.length ≤ b3.length := hnb9; obtain ⟨g4, -, -, -⟩ := run_done hS8; replace g4 : w9.cell? ⟨p, 4, none⟩ = some (.int .i64 0) := g4; have Hsy := Lib.hid (symbols_run (Rs := _ :: Rs) hS8 Hlim.out j3 (by have := Hb60.out; omega) hA8 hB8 la8 lb8 xa8 xb8 hat8); clear hS8 hA8 hB8 hat8); rotate_right; (obtain ⟨b9, o9, e9, dn9, ks9⟩ := r9; obtain ⟨k1, k2, k3⟩ := hK9; replace k1 : dn9 = false := k1; replace k2 : ks9 = ks ++ [(2 : Int)] := k2; replace k3 : (o9.length : Int) ≤ max 0 lim := k3; subst k1; subst k2; obtain ⟨p4, p5, p6, p7⟩ := run_done hS9; have H7 := Lib.hid p7; have Hk3 := Lib.hid k3; clear p7 hS9 k3; have hX : false = (false && e9 == 0) := rfl; have Hab := Lib.hid (after_block (r := ⟨b9, o9, e9, false, ks ++ [(2 : Int)]⟩) hE9 hr9 hX rfl); clear hE9 hX; replace hne9 : e9 ≠ 0 := hne9; have heJ : ((e9 : Int) == 0) = false := beq_eq_false_iff_ne.2 (by omega)))
              | (go_at_call 47; refine Hsy.out.mono ?_; rintro e' w9 ⟨rfl, r9, hE9, hK9, hS9⟩; replace hS9 := Sat.perm (As := [_, _]) hS9 [0] [_] rfl (by simp); obtain ⟨b9, o9, e9, dn9, ks9⟩ := r9; obtain ⟨k1, k2, k3⟩ := hK9; replace k1 : dn9 = false := k1; replace k2 : ks9 = ks ++ [(2 : Int)] := k2; replace k3 : (o9.length : Int) ≤ max 0 lim := k3; subst k1; subst k2; obtain ⟨p4, p5, p6, p7⟩ := run_done hS9; have H7 := Lib.hid p7; have Hk3 := Lib.hid k3; clear p7 hS9 k3; have hX : false = (false && e9 == 0) := rfl; have Hab := Lib.hid (after_block (r := ⟨b9, o9, e9, false, ks ++ [(2 : Int)]⟩) hE9 hr9 hX rfl); clear hE9 hX; clear Hsy))
        all_goals
          go_wp2
          go_roundg (gk - 1)
          case measure => have := Hg.out; omega
          case rel =>
            refine ⟨⟨b9, o9, _, _, ks ++ [(2 : Int)]⟩, ?_, ?_, Hab.out.1, Hk3.out, H7.out _⟩
            · have h1 := Hab.out.2; have h2 := Ht9.out; have h3 := Hg.out; omega
            · have h1 := Hab.out.2; have h2 := Ht9.out; have h3 := Hkb.out; show (ks ++ [_]).length + _ ≤ _; rw [List.length_append, List.length_singleton]; omega
      · subst h
        have l1I : (((0 : Nat) : Int) == 1) = false := by decide
        have Hbad := Lib.hid (Hgo.out.2.2.2 (by omega) (by omega) (by omega))
        clear Hgo
        go_wp2_with (first
              | (go_at_call 45; refine Ht1.out.mono ?_; rintro e' w2 ⟨rfl, hS2⟩; have Ht3 := Lib.hid (Ht2.out _ hS2); clear Ht1 Ht2 hS2)
              | (go_at_call 45; refine Ht3.out.mono ?_; rintro e' w3 ⟨rfl, hS3⟩; obtain ⟨bv3, ov3, kv3, hS7⟩ := run_open hS3; obtain ⟨_, ko, kap, rfl, -, -, -, -⟩ := hS7.at_ 3 _ rfl; have q6 : w3.cell? ⟨p, 6, none⟩ = some (.slice ko ks.length kap) := (run_cells hS7).2.2.2.2.2; have hA := hS7.sl_made (e := 3) (size := 1) (n := 1) (cap := 1) (cur := #[.int .i64 3]) (xs := [.int .i64 3]) (by omega) (by decide) rfl (by simp) (fun j u hu => by simpa using hu); have Hsrc := Lib.hid (SlR.src (P := Tryz.prog) hA.sl_read Tryz.underlying45 (by simp [Value.oneCell'])); have HA2 := Lib.hid (Sat.perm (As := [_, _, _, _, _]) hA [4, 1, 2, 3] [_, _, _, _] rfl (by simp)); clear Ht3 hS3 hS7 hA q0 q4 q5 f4)
              | (at_builtin; refine wpList_append_sat _ rfl _ _ 45 45 rfl 3 i1 (.int .i64 0) 1 8 Tryz.underlying45 hi1 hy0 hy1 hy2 rfl (by decide) ks.length _ _ _ rfl HA2.out 1 _ _ rfl Hsrc.out (by have := Hks.out; unfold maxLen; omega) (by have := Hks.out; omega) ?_; intro v' w' hS8; obtain ⟨_, ko2, kap2, rfl, -, -, -, -⟩ := hS8.at_ 0 _ rfl; have h8 := Sat.perm (As := [_, _, _, _]) hS8 [1, 2, 3, 0] [_, _, _, _] rfl (by simp); have f6 : w'.frozen? ⟨p, 6, none⟩ = false := frozen_of_row w' p 6 _ _ (Sat.heap h8); have q6 : w'.cell? ⟨p, 6, none⟩ = some (.slice ko ks.length kap) := (by rw [cell_of_row w' p 6 _ _ _ (Sat.heap h8)]; rfl); have h9 := Sat.setCell (i := 6) h8 (.slice ko2 (ks.length + 1) kap2); have H9 := Lib.hid h9; have HRn : Hid (Sat (w'.setCell ⟨p, 6, none⟩ (.slice ko2 (ks.length + 1) kap2)) (run p lim ⟨b3, o, 0, false, ks ++ [(3 : Int)]⟩ :: Rs)) := (by refine run_shut (r := ⟨b3, o, 0, false, ks ++ [(3 : Int)]⟩) (bv := bv3) (ov := ov3) (kv := .slice ko2 (ks.length + 1) kap2) ?_; unfold runL; simp only [List.length_append, List.length_singleton, List.map_append, List.map_cons, List.map_nil]; exact H9.out); obtain ⟨bv5, ov5, kv5, h5⟩ := run_open HRn.out; have g4 := (run_cells h5).2.2.2.1; have f4 := run_froz h5 4; have hz := run_shut (Rs := Rs) (run_set (r' := ⟨b3, o, 3, false, ks ++ [(3 : Int)]⟩) (v := .int .i64 3) h5 4 rfl); obtain ⟨p4, p5, p6, p7⟩ := run_done hz; have H7 := Lib.hid p7; clear h8 h9 hS8 Hsrc HA2 H9 p7 hz h5 HRn))
        all_goals
          go_wp2
          go_roundg (gk - 1)
          case measure => have := Hg.out; omega
          case rel => exact ⟨⟨b3, o, 3, false, ks ++ [(3 : Int)]⟩, by unfold OfM; rw [if_neg (fun h => by cases h.1)]; omega, by unfold OfM; rw [if_neg (fun h => by cases h.1)]; show (ks ++ [_]).length + 0 ≤ _; rw [List.length_append, List.length_singleton]; have := Hkb.out; have := Hb3l.out; omega, .inr (.inr (.inr ⟨rfl, by show (3 : Nat) ≠ 0; omega, by show (3 : Nat) ≠ 2; omega, Hbad.out⟩)), Ho.out, H7.out _⟩
    · subst h
      rcases (by omega : kd = 0 ∨ kd = 1 ∨ kd = 2 ∨ kd = 3) with h | h | h | h
      · subst h
        have l1I : (((1 : Nat) : Int) == 1) = true := by decide
        obtain ⟨t9, ta, tb, tc, td, hr9⟩ := Hgo.out.1 rfl
        have Hst : Hid (∀ w1, Sat w1 (run p lim ⟨b3, o, 0, false, ks ++ [(0 : Int)]⟩ :: Rs) → Calls Tryz.prog 46 #[.pointer (some ⟨p, 0, none⟩)] w1 fun e' w' => e' = .returned (.tuple #[]) ∧ ∃ r, Ends lim t9 true r ∧ Kept lim false (ks ++ [(0 : Int)]) r ∧ Sat w' (run p lim r :: Rs)) :=
          fun w1 h => stored_run h Hlim.out Ho.out ta tb tc td (Reach.refl _ _)
        have Ht9 : Hid (t9.bits.length + 3 = b.length) := by unfold Hid; rw [tc]; have := Hb3l.out; omega
        clear Hgo ta tb tc td
        go_wp2_with (first
              | (go_at_call 45; refine Ht1.out.mono ?_; rintro e' w2 ⟨rfl, hS2⟩; have Ht3 := Lib.hid (Ht2.out _ hS2); clear Ht1 Ht2 hS2)
              | (go_at_call 45; refine Ht3.out.mono ?_; rintro e' w3 ⟨rfl, hS3⟩; obtain ⟨bv3, ov3, kv3, hS7⟩ := run_open hS3; obtain ⟨_, ko, kap, rfl, -, -, -, -⟩ := hS7.at_ 3 _ rfl; have q6 : w3.cell? ⟨p, 6, none⟩ = some (.slice ko ks.length kap) := (run_cells hS7).2.2.2.2.2; have hA := hS7.sl_made (e := 3) (size := 1) (n := 1) (cap := 1) (cur := #[.int .i64 0]) (xs := [.int .i64 0]) (by omega) (by decide) rfl (by simp) (fun j u hu => by simpa using hu); have Hsrc := Lib.hid (SlR.src (P := Tryz.prog) hA.sl_read Tryz.underlying45 (by simp [Value.oneCell'])); have HA2 := Lib.hid (Sat.perm (As := [_, _, _, _, _]) hA [4, 1, 2, 3] [_, _, _, _] rfl (by simp)); clear Ht3 hS3 hS7 hA q0 q4 q5 f4)
              | (at_builtin; refine wpList_append_sat _ rfl _ _ 45 45 rfl 3 i1 (.int .i64 0) 1 8 Tryz.underlying45 hi1 hy0 hy1 hy2 rfl (by decide) ks.length _ _ _ rfl HA2.out 1 _ _ rfl Hsrc.out (by have := Hks.out; unfold maxLen; omega) (by have := Hks.out; omega) ?_; intro v' w' hS8; obtain ⟨_, ko2, kap2, rfl, -, -, -, -⟩ := hS8.at_ 0 _ rfl; have h8 := Sat.perm (As := [_, _, _, _]) hS8 [1, 2, 3, 0] [_, _, _, _] rfl (by simp); have f6 : w'.frozen? ⟨p, 6, none⟩ = false := frozen_of_row w' p 6 _ _ (Sat.heap h8); have q6 : w'.cell? ⟨p, 6, none⟩ = some (.slice ko ks.length kap) := (by rw [cell_of_row w' p 6 _ _ _ (Sat.heap h8)]; rfl); have h9 := Sat.setCell (i := 6) h8 (.slice ko2 (ks.length + 1) kap2); have H9 := Lib.hid h9; have HRn : Hid (Sat (w'.setCell ⟨p, 6, none⟩ (.slice ko2 (ks.length + 1) kap2)) (run p lim ⟨b3, o, 0, false, ks ++ [(0 : Int)]⟩ :: Rs)) := (by refine run_shut (r := ⟨b3, o, 0, false, ks ++ [(0 : Int)]⟩) (bv := bv3) (ov := ov3) (kv := .slice ko2 (ks.length + 1) kap2) ?_; unfold runL; simp only [List.length_append, List.length_singleton, List.map_append, List.map_cons, List.map_nil]; exact H9.out); clear h8 h9 hS8 Hsrc HA2 H9)
              | (go_at_call 46; refine (Hst.out _ HRn.out).mono ?_; rintro e' w9 ⟨rfl, r9, hE9, hK9, hS9⟩; obtain ⟨b9, o9, e9, dn9, ks9⟩ := r9; obtain ⟨k1, k2, k3⟩ := hK9; replace k1 : dn9 = false := k1; replace k2 : ks9 = ks ++ [(0 : Int)] := k2; replace k3 : (o9.length : Int) ≤ max 0 lim := k3; subst k1; subst k2; obtain ⟨p4, p5, p6, p7⟩ := run_done hS9; have H7 := Lib.hid p7; have Hk3 := Lib.hid k3; clear p7 hS9 k3; rcases Nat.eq_zero_or_pos e9 with h9 | h9; rotate_left; (have heI : ((e9 : Int) == 0) = false := beq_eq_false_iff_ne.2 (by omega); have hX : false = (true && e9 == 0) := (by have h0 : (e9 == 0) = false := beq_eq_false_iff_ne.2 (by omega); rw [h0]; rfl); have Hab := Lib.hid (after_block (r := ⟨b9, o9, e9, false, ks ++ [(0 : Int)]⟩) hE9 hr9 hX rfl); clear hE9 hX); rotate_right; (subst h9; replace p4 : w9.cell? ⟨p, 4, none⟩ = some (.int .i64 0) := p4; have hX : true = (true && (0 : Nat) == 0) := rfl; have Hab := Lib.hid (after_block (r := ⟨b9, o9, 0, false, ks ++ [(0 : Int)]⟩) hE9 hr9 hX rfl); clear hE9 hX); clear Hst HRn))
        all_goals
          go_wp2
          go_roundg (gk - 1)
          case measure => have := Hg.out; omega
          case rel =>
            refine ⟨⟨b9, o9, _, _, ks ++ [(0 : Int)]⟩, ?_, ?_, Hab.out.1, Hk3.out, H7.out _⟩
            · have h1 := Hab.out.2; have h2 := Ht9.out; have h3 := Hg.out; omega
            · have h1 := Hab.out.2; have h2 := Ht9.out; have h3 := Hkb.out; show (ks ++ [_]).length + _ ≤ _; rw [List.length_append, List.length_singleton]; omega
      · subst h
        have l1I : (((1 : Nat) : Int) == 1) = true := by decide
        obtain ⟨t9, ta, tb, tl, tw, tc, td, hr9⟩ := Hgo.out.2.1 rfl
        have Hsym : Hid (∀ w1 a c d f, Sat w1 (sl 3 1 288 (.slice a 288 c) ((natsV fixL).map intV) :: sl 3 1 32 (.slice d 32 f) ((natsV fixD).map intV) :: run p lim ⟨b3, o, 0, false, ks ++ [(1 : Int)]⟩ :: Rs) → Calls Tryz.prog 47 #[.pointer (some ⟨p, 0, none⟩), .slice a 288 c, .slice d 32 f] w1 fun e' w' => e' = .returned (.tuple #[]) ∧ ∃ r, Ends lim t9 true r ∧ Kept lim false (ks ++ [(1 : Int)]) r ∧ Sat w' (run p lim r :: Rs)) := by
          intro w1 a c d f h
          have h2 := Sat.perm (As := [_, _, _]) h [2, 0, 1] [_, _, _] rfl (by simp)
          refine (symbols_run (Rs := _ :: _ :: Rs) h2 Hlim.out Ho.out Hb60.out (fun w' h' => ints_nats fix_lens.1 h'.sl_read) (fun w' h' => ints_nats fix_lens.2.1 h'.tail.sl_read) (by rw [fix_lens.1]; omega) (by rw [fix_lens.2.1]; omega) fix_lens.2.2.1 fix_lens.2.2.2 (s := t9) ⟨ta, tb, tl, tw, tc, td, Reach.refl _ _⟩).mono ?_
          rintro e' w' ⟨rfl, r, h3, h4, h5⟩
          exact ⟨rfl, r, h3, h4, Sat.perm (As := [_, _, _]) h5 [0] [_] rfl (by simp)⟩
        have Ht9 : Hid (t9.bits.length + 3 = b.length) := by unfold Hid; rw [tc]; have := Hb3l.out; omega
        clear Hgo ta tb tc td tl tw
        go_wp2_with (first
              | (go_at_call 45; refine Ht1.out.mono ?_; rintro e' w2 ⟨rfl, hS2⟩; have Ht3 := Lib.hid (Ht2.out _ hS2); clear Ht1 Ht2 hS2)
              | (go_at_call 45; refine Ht3.out.mono ?_; rintro e' w3 ⟨rfl, hS3⟩; obtain ⟨bv3, ov3, kv3, hS7⟩ := run_open hS3; obtain ⟨_, ko, kap, rfl, -, -, -, -⟩ := hS7.at_ 3 _ rfl; have q6 : w3.cell? ⟨p, 6, none⟩ = some (.slice ko ks.length kap) := (run_cells hS7).2.2.2.2.2; have hA := hS7.sl_made (e := 3) (size := 1) (n := 1) (cap := 1) (cur := #[.int .i64 1]) (xs := [.int .i64 1]) (by omega) (by decide) rfl (by simp) (fun j u hu => by simpa using hu); have Hsrc := Lib.hid (SlR.src (P := Tryz.prog) hA.sl_read Tryz.underlying45 (by simp [Value.oneCell'])); have HA2 := Lib.hid (Sat.perm (As := [_, _, _, _, _]) hA [4, 1, 2, 3] [_, _, _, _] rfl (by simp)); clear Ht3 hS3 hS7 hA q0 q4 q5 f4)
              | (at_builtin; refine wpList_append_sat _ rfl _ _ 45 45 rfl 3 i1 (.int .i64 0) 1 8 Tryz.underlying45 hi1 hy0 hy1 hy2 rfl (by decide) ks.length _ _ _ rfl HA2.out 1 _ _ rfl Hsrc.out (by have := Hks.out; unfold maxLen; omega) (by have := Hks.out; omega) ?_; intro v' w' hS8; obtain ⟨_, ko2, kap2, rfl, -, -, -, -⟩ := hS8.at_ 0 _ rfl; have h8 := Sat.perm (As := [_, _, _, _]) hS8 [1, 2, 3, 0] [_, _, _, _] rfl (by simp); have f6 : w'.frozen? ⟨p, 6, none⟩ = false := frozen_of_row w' p 6 _ _ (Sat.heap h8); have q6 : w'.cell? ⟨p, 6, none⟩ = some (.slice ko ks.length kap) := (by rw [cell_of_row w' p 6 _ _ _ (Sat.heap h8)]; rfl); have h9 := Sat.setCell (i := 6) h8 (.slice ko2 (ks.length + 1) kap2); have H9 := Lib.hid h9; have HRn : Hid (Sat (w'.setCell ⟨p, 6, none⟩ (.slice ko2 (ks.length + 1) kap2)) (run p lim ⟨b3, o, 0, false, ks ++ [(1 : Int)]⟩ :: Rs)) := (by refine run_shut (r := ⟨b3, o, 0, false, ks ++ [(1 : Int)]⟩) (bv := bv3) (ov := ov3) (kv := .slice ko2 (ks.length + 1) kap2) ?_; unfold runL; simp only [List.length_append, List.length_singleton, List.map_append, List.map_cons, List.map_nil]; exact H9.out); clear h8 h9 hS8 Hsrc HA2 H9)
              | (go_at_call 48; refine (fixed_ref HRn.out).mono ?_; rintro e' w8 ⟨fa, fc, fd, ff, rfl, hS8⟩; have Hsy := Lib.hid (Hsym.out _ _ _ _ _ hS8); clear Hsym hS8 HRn)
              | (go_at_call 47; refine Hsy.out.mono ?_; rintro e' w9 ⟨rfl, r9, hE9, hK9, hS9⟩; obtain ⟨b9, o9, e9, dn9, ks9⟩ := r9; obtain ⟨k1, k2, k3⟩ := hK9; replace k1 : dn9 = false := k1; replace k2 : ks9 = ks ++ [(1 : Int)] := k2; replace k3 : (o9.length : Int) ≤ max 0 lim := k3; subst k1; subst k2; obtain ⟨p4, p5, p6, p7⟩ := run_done hS9; have H7 := Lib.hid p7; have Hk3 := Lib.hid k3; clear p7 hS9 k3; rcases Nat.eq_zero_or_pos e9 with h9 | h9; rotate_left; (have heI : ((e9 : Int) == 0) = false := beq_eq_false_iff_ne.2 (by omega); have hX : false = (true && e9 == 0) := (by have h0 : (e9 == 0) = false := beq_eq_false_iff_ne.2 (by omega); rw [h0]; rfl); have Hab := Lib.hid (after_block (r := ⟨b9, o9, e9, false, ks ++ [(1 : Int)]⟩) hE9 hr9 hX rfl); clear hE9 hX); rotate_right; (subst h9; replace p4 : w9.cell? ⟨p, 4, none⟩ = some (.int .i64 0) := p4; have hX : true = (true && (0 : Nat) == 0) := rfl; have Hab := Lib.hid (after_block (r := ⟨b9, o9, 0, false, ks ++ [(1 : Int)]⟩) hE9 hr9 hX rfl); clear hE9 hX); clear Hsy))
        all_goals
          go_wp2
          go_roundg (gk - 1)
          case measure => have := Hg.out; omega
          case rel =>
            refine ⟨⟨b9, o9, _, _, ks ++ [(1 : Int)]⟩, ?_, ?_, Hab.out.1, Hk3.out, H7.out _⟩
            · have h1 := Hab.out.2; have h2 := Ht9.out; have h3 := Hg.out; omega
            · have h1 := Hab.out.2; have h2 := Ht9.out; have h3 := Hkb.out; show (ks ++ [_]).length + _ ≤ _; rw [List.length_append, List.length_singleton]; omega
      · subst h
        have l1I : (((1 : Nat) : Int) == 1) = true := by decide
        obtain ⟨t9, ta, tb, tc, td, hr9⟩ := Hgo.out.2.2.1 rfl
        have Htd : Hid (∀ w1, Sat w1 (run p lim ⟨b3, o, 0, false, ks ++ [(2 : Int)]⟩ :: Rs) → Calls Tryz.prog 49 #[.pointer (some ⟨p, 0, none⟩)] w1 (ToldP p lim t9 true false (ks ++ [(2 : Int)]) b3.length Rs)) :=
          fun w1 h => told_run h Ho.out Hb60.out ta tb tc td (Reach.refl _ _)
        have Ht9 : Hid (t9.bits.length + 3 = b.length) := by unfold Hid; rw [tc]; have := Hb3l.out; omega
        clear Hgo ta tb tc td
        go_wp2_with (first
              | (go_at_call 45; refine Ht1.out.mono ?_; rintro e' w2 ⟨rfl, hS2⟩; have Ht3 := Lib.hid (Ht2.out _ hS2); clear Ht1 Ht2 hS2)
              | (go_at_call 45; refine Ht3.out.mono ?_; rintro e' w3 ⟨rfl, hS3⟩; obtain ⟨bv3, ov3, kv3, hS7⟩ := run_open hS3; obtain ⟨_, ko, kap, rfl, -, -, -, -⟩ := hS7.at_ 3 _ rfl; have q6 : w3.cell? ⟨p, 6, none⟩ = some (.slice ko ks.length kap) := (run_cells hS7).2.2.2.2.2; have hA := hS7.sl_made (e := 3) (size := 1) (n := 1) (cap := 1) (cur := #[.int .i64 2]) (xs := [.int .i64 2]) (by omega) (by decide) rfl (by simp) (fun j u hu => by simpa using hu); have Hsrc := Lib.hid (SlR.src (P := Tryz.prog) hA.sl_read Tryz.underlying45 (by simp [Value.oneCell'])); have HA2 := Lib.hid (Sat.perm (As := [_, _, _, _, _]) hA [4, 1, 2, 3] [_, _, _, _] rfl (by simp)); clear Ht3 hS3 hS7 hA q0 q4 q5 f4)
              | (at_builtin; refine wpList_append_sat _ rfl _ _ 45 45 rfl 3 i1 (.int .i64 0) 1 8 Tryz.underlying45 hi1 hy0 hy1 hy2 rfl (by decide) ks.length _ _ _ rfl HA2.out 1 _ _ rfl Hsrc.out (by have := Hks.out; unfold maxLen; omega) (by have := Hks.out; omega) ?_; intro v' w' hS8; obtain ⟨_, ko2, kap2, rfl, -, -, -, -⟩ := hS8.at_ 0 _ rfl; have h8 := Sat.perm (As := [_, _, _, _]) hS8 [1, 2, 3, 0] [_, _, _, _] rfl (by simp); have f6 : w'.frozen? ⟨p, 6, none⟩ = false := frozen_of_row w' p 6 _ _ (Sat.heap h8); have q6 : w'.cell? ⟨p, 6, none⟩ = some (.slice ko ks.length kap) := (by rw [cell_of_row w' p 6 _ _ _ (Sat.heap h8)]; rfl); have h9 := Sat.setCell (i := 6) h8 (.slice ko2 (ks.length + 1) kap2); have H9 := Lib.hid h9; have HRn : Hid (Sat (w'.setCell ⟨p, 6, none⟩ (.slice ko2 (ks.length + 1) kap2)) (run p lim ⟨b3, o, 0, false, ks ++ [(2 : Int)]⟩ :: Rs)) := (by refine run_shut (r := ⟨b3, o, 0, false, ks ++ [(2 : Int)]⟩) (bv := bv3) (ov := ov3) (kv := .slice ko2 (ks.length + 1) kap2) ?_; unfold runL; simp only [List.length_append, List.length_singleton, List.map_append, List.map_cons, List.map_nil]; exact H9.out); clear h8 h9 hS8 Hsrc HA2 H9)
              | (go_at_call 49; refine (Htd.out _ HRn.out).mono ?_; rintro e' w9 ⟨ua, ub, r9, rfl, hK9, ⟨hne9, hE9, hS9⟩ | ⟨hz9, hnb9, FA, FB, t8, FR, hat8, la8, lb8, xa8, xb8, hS8, hA8, hB8⟩⟩; (all_goals (clear Htd HRn)); rotate_left; (obtain ⟨c9, d9, e8, dn8, ks8⟩ := r9; replace hz9 : e8 = 0 := hz9; subst hz9; obtain ⟨j1, j2, j3⟩ := hK9; replace j1 : dn8 = false := j1; replace j2 : ks8 = ks ++ [(2 : Int)] := j2; replace j3 : (d9.length : Int) ≤ max 0 lim := j3; subst j1; subst j2; replace hnb9 : c9.length ≤ b3.length := hnb9; obtain ⟨g4, -, -, -⟩ := run_done hS8; replace g4 : w9.cell? ⟨p, 4, none⟩ = some (.int .i64 0) := g4; have Hsy := Lib.hid (symbols_run (Rs := _ :: Rs) hS8 Hlim.out j3 (by have := Hb60.out; omega) hA8 hB8 la8 lb8 xa8 xb8 hat8); clear hS8 hA8 hB8 hat8); rotate_right; (obtain ⟨b9, o9, e9, dn9, ks9⟩ := r9; obtain ⟨k1, k2, k3⟩ := hK9; replace k1 : dn9 = false := k1; replace k2 : ks9 = ks ++ [(2 : Int)] := k2; replace k3 : (o9.length : Int) ≤ max 0 lim := k3; subst k1; subst k2; obtain ⟨p4, p5, p6, p7⟩ := run_done hS9; have H7 := Lib.hid p7; have Hk3 := Lib.hid k3; clear p7 hS9 k3; replace hne9 : e9 ≠ 0 := hne9; have heJ : ((e9 : Int) == 0) = false := beq_eq_false_iff_ne.2 (by omega); rcases Nat.eq_zero_or_pos e9 with h9 | h9; rotate_left; (have heI : ((e9 : Int) == 0) = false := beq_eq_false_iff_ne.2 (by omega); have hX : false = (true && e9 == 0) := (by have h0 : (e9 == 0) = false := beq_eq_false_iff_ne.2 (by omega); rw [h0]; rfl); have Hab := Lib.hid (after_block (r := ⟨b9, o9, e9, false, ks ++ [(2 : Int)]⟩) hE9 hr9 hX rfl); clear hE9 hX); rotate_right; (exact absurd h9 hne9)))
              | (go_at_call 47; refine Hsy.out.mono ?_; rintro e' w9 ⟨rfl, r9, hE9, hK9, hS9⟩; replace hS9 := Sat.perm (As := [_, _]) hS9 [0] [_] rfl (by simp); obtain ⟨b9, o9, e9, dn9, ks9⟩ := r9; obtain ⟨k1, k2, k3⟩ := hK9; replace k1 : dn9 = false := k1; replace k2 : ks9 = ks ++ [(2 : Int)] := k2; replace k3 : (o9.length : Int) ≤ max 0 lim := k3; subst k1; subst k2; obtain ⟨p4, p5, p6, p7⟩ := run_done hS9; have H7 := Lib.hid p7; have Hk3 := Lib.hid k3; clear p7 hS9 k3; rcases Nat.eq_zero_or_pos e9 with h9 | h9; rotate_left; (have heI : ((e9 : Int) == 0) = false := beq_eq_false_iff_ne.2 (by omega); have hX : false = (true && e9 == 0) := (by have h0 : (e9 == 0) = false := beq_eq_false_iff_ne.2 (by omega); rw [h0]; rfl); have Hab := Lib.hid (after_block (r := ⟨b9, o9, e9, false, ks ++ [(2 : Int)]⟩) hE9 hr9 hX rfl); clear hE9 hX); rotate_right; (subst h9; replace p4 : w9.cell? ⟨p, 4, none⟩ = some (.int .i64 0) := p4; have hX : true = (true && (0 : Nat) == 0) := rfl; have Hab := Lib.hid (after_block (r := ⟨b9, o9, 0, false, ks ++ [(2 : Int)]⟩) hE9 hr9 hX rfl); clear hE9 hX); clear Hsy))
        all_goals
          go_wp2
          go_roundg (gk - 1)
          case measure => have := Hg.out; omega
          case rel =>
            refine ⟨⟨b9, o9, _, _, ks ++ [(2 : Int)]⟩, ?_, ?_, Hab.out.1, Hk3.out, H7.out _⟩
            · have h1 := Hab.out.2; have h2 := Ht9.out; have h3 := Hg.out; omega
            · have h1 := Hab.out.2; have h2 := Ht9.out; have h3 := Hkb.out; show (ks ++ [_]).length + _ ≤ _; rw [List.length_append, List.length_singleton]; omega
      · subst h
        have l1I : (((1 : Nat) : Int) == 1) = true := by decide
        have Hbad := Lib.hid (Hgo.out.2.2.2 (by omega) (by omega) (by omega))
        clear Hgo
        go_wp2_with (first
              | (go_at_call 45; refine Ht1.out.mono ?_; rintro e' w2 ⟨rfl, hS2⟩; have Ht3 := Lib.hid (Ht2.out _ hS2); clear Ht1 Ht2 hS2)
              | (go_at_call 45; refine Ht3.out.mono ?_; rintro e' w3 ⟨rfl, hS3⟩; obtain ⟨bv3, ov3, kv3, hS7⟩ := run_open hS3; obtain ⟨_, ko, kap, rfl, -, -, -, -⟩ := hS7.at_ 3 _ rfl; have q6 : w3.cell? ⟨p, 6, none⟩ = some (.slice ko ks.length kap) := (run_cells hS7).2.2.2.2.2; have hA := hS7.sl_made (e := 3) (size := 1) (n := 1) (cap := 1) (cur := #[.int .i64 3]) (xs := [.int .i64 3]) (by omega) (by decide) rfl (by simp) (fun j u hu => by simpa using hu); have Hsrc := Lib.hid (SlR.src (P := Tryz.prog) hA.sl_read Tryz.underlying45 (by simp [Value.oneCell'])); have HA2 := Lib.hid (Sat.perm (As := [_, _, _, _, _]) hA [4, 1, 2, 3] [_, _, _, _] rfl (by simp)); clear Ht3 hS3 hS7 hA q0 q4 q5 f4)
              | (at_builtin; refine wpList_append_sat _ rfl _ _ 45 45 rfl 3 i1 (.int .i64 0) 1 8 Tryz.underlying45 hi1 hy0 hy1 hy2 rfl (by decide) ks.length _ _ _ rfl HA2.out 1 _ _ rfl Hsrc.out (by have := Hks.out; unfold maxLen; omega) (by have := Hks.out; omega) ?_; intro v' w' hS8; obtain ⟨_, ko2, kap2, rfl, -, -, -, -⟩ := hS8.at_ 0 _ rfl; have h8 := Sat.perm (As := [_, _, _, _]) hS8 [1, 2, 3, 0] [_, _, _, _] rfl (by simp); have f6 : w'.frozen? ⟨p, 6, none⟩ = false := frozen_of_row w' p 6 _ _ (Sat.heap h8); have q6 : w'.cell? ⟨p, 6, none⟩ = some (.slice ko ks.length kap) := (by rw [cell_of_row w' p 6 _ _ _ (Sat.heap h8)]; rfl); have h9 := Sat.setCell (i := 6) h8 (.slice ko2 (ks.length + 1) kap2); have H9 := Lib.hid h9; have HRn : Hid (Sat (w'.setCell ⟨p, 6, none⟩ (.slice ko2 (ks.length + 1) kap2)) (run p lim ⟨b3, o, 0, false, ks ++ [(3 : Int)]⟩ :: Rs)) := (by refine run_shut (r := ⟨b3, o, 0, false, ks ++ [(3 : Int)]⟩) (bv := bv3) (ov := ov3) (kv := .slice ko2 (ks.length + 1) kap2) ?_; unfold runL; simp only [List.length_append, List.length_singleton, List.map_append, List.map_cons, List.map_nil]; exact H9.out); obtain ⟨bv5, ov5, kv5, h5⟩ := run_open HRn.out; have g4 := (run_cells h5).2.2.2.1; have f4 := run_froz h5 4; have hz := run_shut (Rs := Rs) (run_set (r' := ⟨b3, o, 3, false, ks ++ [(3 : Int)]⟩) (v := .int .i64 3) h5 4 rfl); obtain ⟨p4, p5, p6, p7⟩ := run_done hz; have H7 := Lib.hid p7; clear h8 h9 hS8 Hsrc HA2 H9 p7 hz h5 HRn))
        all_goals
          go_wp2
          go_roundg (gk - 1)
          case measure => have := Hg.out; omega
          case rel => exact ⟨⟨b3, o, 3, false, ks ++ [(3 : Int)]⟩, by unfold OfM; rw [if_neg (fun h => by cases h.1)]; omega, by unfold OfM; rw [if_neg (fun h => by cases h.1)]; show (ks ++ [_]).length + 0 ≤ _; rw [List.length_append, List.length_singleton]; have := Hkb.out; have := Hb3l.out; omega, .inr (.inr (.inr ⟨rfl, by show (3 : Nat) ≠ 0; omega, by show (3 : Nat) ≠ 2; omega, Hbad.out⟩)), Ho.out, H7.out _⟩

end Go.Proofs.YtdpocnkeokplpaaGreat
