/- The document's inflate: a block's symbols. -/
import Derived.Test.YtdpocnkeokplpaaGreatRunO
import Derived.Test.YtdpocnkeokplpaaGreatRunF
namespace Go.Proofs.YtdpocnkeokplpaaGreat
open Go.RowKit Go.Hal
set_option linter.unusedVariables false
set_option linter.unusedSimpArgs false

/-- Ahead of a symbol, or at an end. -/
def SymI (lim : Int) (s0 : DS) (last : Bool) (A B : List Nat) (r : RunS) : Prop := (r.e = 0 ∧ ∃ t, AtSym lim s0 last A B r t) ∨ (r.e ≠ 0 ∧ Ends lim s0 last r)
/-- In a copy, or at an end. -/
def CopI (lim : Int) (s0 : DS) (last : Bool) (A B : List Nat) (far k : Nat) (r : RunS) : Prop := (r.e = 0 ∧ far ≤ r.out.length ∧ ∃ t, AtCopy lim s0 last A B far k r t) ∨ (r.e ≠ 0 ∧ Ends lim s0 last r)
theorem lenE_lim : ∀ s, s < 29 → (lenE s).1 ≤ 5 ∧ 3 ≤ (lenE s).2 ∧ (lenE s).2 ≤ 258 := by decide +kernel
theorem disE_lim : ∀ t, t < 30 → (disE t).1 ≤ 13 ∧ 1 ≤ (disE t).2 ∧ (disE t).2 ≤ 24577 := by decide +kernel

theorem run_out {w : World} {p : Nat} {lim : Int} {b : List Bool} {o : List UInt8} {e : Nat} {dn : Bool} {ks : List Int} {Rs : List Res} (hS : Sat w (run p lim ⟨b, o, e, dn, ks⟩ :: Rs)) :
    ∃ oo oap, w.cell? ⟨p, 2, none⟩ = some (.slice oo o.length oap) ∧ o.length ≤ oap ∧ ∀ j c, o[j]? = some c → ∃ ob off, oo = some ⟨ob, off, none⟩ ∧ w.cell? ⟨ob, off + j, none⟩ = some (.int .u8 (c.toNat : Nat)) := by
  obtain ⟨bv, ov, kv, hS1⟩ := run_open hS
  have hc := (run_cells hS1).2.1
  have hr := (Sat.front hS1 2 _ rfl).sl_read
  obtain ⟨oo, oap, rfl, h1, -, -, h4⟩ := hr
  refine ⟨oo, oap, hc, h1, fun j c hj => ?_⟩
  have hlt := (List.getElem?_eq_some_iff.1 hj).1
  obtain ⟨ob, off, rfl, -, h5⟩ := h4 (by show 0 < o.length * 1; omega)
  exact ⟨ob, off, rfl, h5 j (byteV c) (by rw [List.getElem?_map, hj]; rfl)⟩

/-- What lies there while symbols are read. -/
def symL (p : Nat) (lim : Int) (TA TB : List (Nat × Value)) (va vb : Value) (PA PB : List Ent) (Rs : List Res) (r : RunS) : List Res :=
  run p lim r :: sl 156 2 TA.length va (wordC TA) :: pool PA :: sl 156 2 TB.length vb (wordC TB) :: pool PB :: Rs
theorem symL_A {w : World} {p : Nat} {lim : Int} {TA TB : List (Nat × Value)} {va vb : Value} {PA PB : List Ent} {Rs : List Res} {r : RunS} {A : List Nat} (hS : Sat w (symL p lim TA TB va vb PA PB Rs r)) (hT : TA.map (·.1) = ord A 15) (hP : ∀ x ∈ TA, entW A x ∈ PA) (hn : TA.length ≤ 288) :
    Calls Tryz.prog 81 #[.pointer (some ⟨p, 0, none⟩), va] w fun e' w' => e' = .returned (.int .i64 (r.nextV A : Nat)) ∧ Sat w' (symL p lim TA TB va vb PA PB Rs (r.nextS A)) :=
  next_run (Rs := _ :: _ :: Rs) hS hT hP hn
theorem symL_B {w : World} {p : Nat} {lim : Int} {TA TB : List (Nat × Value)} {va vb : Value} {PA PB : List Ent} {Rs : List Res} {r : RunS} {B : List Nat} (hS : Sat w (symL p lim TA TB va vb PA PB Rs r)) (hT : TB.map (·.1) = ord B 15) (hP : ∀ x ∈ TB, entW B x ∈ PB) (hn : TB.length ≤ 288) :
    Calls Tryz.prog 81 #[.pointer (some ⟨p, 0, none⟩), vb] w fun e' w' => e' = .returned (.int .i64 (r.nextV B : Nat)) ∧ Sat w' (symL p lim TA TB va vb PA PB Rs (r.nextS B)) := by
  have h := next_run (Rs := _ :: _ :: Rs) (Sat.perm (As := [_, _, _, _, _]) hS [0, 3, 4, 1, 2] [_, _, _, _, _] rfl (by simp)) hT hP hn
  exact h.mono fun e' w' h => ⟨h.1, Sat.perm (As := [_, _, _, _, _]) h.2 [0, 3, 4, 1, 2] [_, _, _, _, _] rfl (by simp)⟩

set_option maxRecDepth 100000 in
set_option maxHeartbeats 8000000 in
theorem symbols_run {w : World} {p : Nat} {lim : Int} {bits : List Bool} {out : List UInt8} {done last : Bool} {kinds : List Int} {Rs : List Res} {s0 s : DS} {A B : List Nat} {u v : Value} (hS : Sat w (run p lim ⟨bits, out, 0, done, kinds⟩ :: Rs)) (hlim : lim ≤ 1099511627776) (ho : (out.length : Int) ≤ max 0 lim) (hbl : bits.length ≤ 1099511627776)
    (hA : ∀ w', Sat w' Rs → IntsR w' u (natsV A)) (hB : ∀ w', Sat w' Rs → IntsR w' v (natsV B)) (la : A.length ≤ 288) (lb : B.length ≤ 288) (xa : ∀ x ∈ A, x ≤ 15) (xb : ∀ x ∈ B, x ≤ 15)
    (hs : AtSym lim s0 last A B ⟨bits, out, 0, done, kinds⟩ s) :
    Calls Tryz.prog 47 #[.pointer (some ⟨p, 0, none⟩), u, v] w fun e' w' => e' = .returned (.tuple #[]) ∧ ∃ r, Ends lim s0 last r ∧ Kept lim done kinds r ∧ Sat w' (run p lim r :: Rs) := by
  have HW1 := Lib.hid (words_any hS u A (fun w' h => hA w' h.tail) la xa)
  have Hw2 : Hid (∀ w1 x y, Sat w1 (x :: y :: run p lim ⟨bits, out, 0, done, kinds⟩ :: Rs) → Calls Tryz.prog 80 #[v] w1 fun e w' => ∃ (o : Value) (T : List (Nat × Value)) (P : List Ent), e = .returned o ∧ T.map (·.1) = ord B 15 ∧ (∀ x ∈ T, entW B x ∈ P) ∧ Sat w' (sl 156 2 T.length o (wordC T) :: pool P :: x :: y :: run p lim ⟨bits, out, 0, done, kinds⟩ :: Rs)) :=
    fun w1 x y h => words_any h v B (fun w' h => hB w' h.tail.tail.tail) lb xb
  obtain ⟨uo, uap, rfl, -, -, -⟩ := (hA w hS.tail).cell
  obtain ⟨vo, vap, rfl, -, -, -⟩ := (hB w hS.tail).cell
  have hI : SymI lim s0 last A B ⟨bits, out, 0, done, kinds⟩ := .inl ⟨rfl, s, hs⟩
  have HI := Lib.hid hI
  have HK : Hid (Kept lim done kinds ⟨bits, out, 0, done, kinds⟩) := ⟨rfl, rfl, ho⟩
  have Hab : Hid ((∀ x ∈ A, x ≤ 15) ∧ (∀ x ∈ B, x ≤ 15) ∧ A.length ≤ 288 ∧ B.length ≤ 288 ∧ lim ≤ 1099511627776 ∧ bits.length ≤ 1099511627776) := ⟨xa, xb, la, lb, hlim, hbl⟩
  have Hbl := Lib.hid hbl
  clear hA hB hS hI hs ho xa xb la lb hlim hbl
  go_enter Tryz.func47, Tryz.ntmps47
  go_wp2_with (first
    | (go_at_call 80; refine HW1.out.mono ?_; rintro e' w1 ⟨va, TA, PA, rfl, hTA, hPA, hS1⟩; have H2 := Lib.hid (Hw2.out _ _ _ hS1); have HTA := Lib.hid hTA; have HPA := Lib.hid hPA; clear HW1 Hw2 hS1 hTA hPA)
    | (go_at_call 80; refine H2.out.mono ?_; rintro e' w2 ⟨vb, TB, PB, rfl, hTB, hPB, hS2⟩; have HTB := Lib.hid hTB; have HPB := Lib.hid hPB; have HS2 := Lib.hid hS2; clear H2 hS2 hTB hPB))
  have HnA : Hid (∀ w1 r, Sat w1 (symL p lim TA TB va vb PA PB Rs r) → Calls Tryz.prog 81 #[.pointer (some ⟨p, 0, none⟩), va] w1 fun e' w' => e' = .returned (.int .i64 (r.nextV A : Nat)) ∧ Sat w' (symL p lim TA TB va vb PA PB Rs (r.nextS A))) := fun w1 r h => symL_A h HTA.out HPA.out (words_few HTA.out Hab.out.1 Hab.out.2.2.1)
  have HnB : Hid (∀ w1 r, Sat w1 (symL p lim TA TB va vb PA PB Rs r) → Calls Tryz.prog 81 #[.pointer (some ⟨p, 0, none⟩), vb] w1 fun e' w' => e' = .returned (.int .i64 (r.nextV B : Nat)) ∧ Sat w' (symL p lim TA TB va vb PA PB Rs (r.nextS B))) := fun w1 r h => symL_B h HTB.out HPB.out (words_few HTB.out Hab.out.2.1 Hab.out.2.2.2.1)
  have HS3 : Hid (Sat w2 (symL p lim TA TB va vb PA PB Rs ⟨bits, out, 0, done, kinds⟩)) := Sat.perm (As := [_, _, _, _, _]) HS2.out [4, 2, 3, 0, 1] [_, _, _, _, _] rfl (by simp)
  have Hend : Hid (∀ w1 r, Sat w1 (symL p lim TA TB va vb PA PB Rs r) → Sat w1 (run p lim r :: Rs)) := fun w1 r h => Sat.perm (As := [_, _, _, _, _]) h [0] [_] rfl (by simp)
  obtain ⟨_, vao, vaap, rfl, -, -, -, -⟩ := HS2.out.at_ 2 _ rfl
  obtain ⟨_, vbo, vbap, rfl, -, -, -, -⟩ := HS2.out.at_ 0 _ rfl
  clear HS2 HTA HPA HTB HPB
  go_loopg [] (bits.length + 1) (fun g wr => ∃ r : RunS, r.bits.length + (if r.e = 0 then 1 else 0) ≤ g ∧ r.bits.length ≤ bits.length ∧ Hid (SymI lim s0 last A B r) ∧ Hid (Kept lim done kinds r) ∧ Hid (Sat wr (symL p lim TA TB (.slice vao TA.length vaap) (.slice vbo TB.length vbap) PA PB Rs r)))
  case atStart => exact ⟨_, by simp, Nat.le_refl _, HI.out, HK.out, HS3.out⟩
  case round =>
    obtain ⟨⟨b, o, e, dn, ks⟩, hg, hbb, HR, HKj, HS5⟩ := hrel
    replace hbb : b.length ≤ bits.length := hbb
    have hb60 : b.length ≤ 1099511627776 := Nat.le_trans hbb Hbl.out
    have q4 := run_e HS5.out
    clear HI HK HS3
    rcases HR.out with ⟨he, t, hat⟩ | ⟨he, hE⟩
    rotate_left
    · replace he : e ≠ 0 := he
      have heI : ((e : Int) == 0) = false := beq_eq_false_iff_ne.2 (by omega)
      have HE := Lib.hid hE
      clear hE HR hg
      go_wp2
      go_end0
      exact ⟨rfl, _, HE.out, HKj.out, Hend.out _ _ HS5.out⟩
    replace he : e = 0 := he
    subst he
    replace q4 : wr.cell? ⟨p, 4, none⟩ = some (.int .i64 0) := q4
    replace hg : b.length + 1 ≤ gk := by simpa using hg
    have Hg := Lib.hid hg
    have Hat := Lib.hid hat
    obtain ⟨⟨x, e1, n⟩, hD⟩ : ∃ D, decL A b = D := ⟨_, rfl⟩
    obtain ⟨d1, d2, d3⟩ := decL_good hD
    have hn := HnA.out _ _ HS5.out
    rw [nextV_k (r := ⟨b, o, 0, dn, ks⟩) rfl, nextS_k (r := ⟨b, o, 0, dn, ks⟩) rfl] at hn
    simp only [hD] at hn
    have Hn1 := Lib.hid hn
    have HD := Lib.hid hD
    obtain ⟨b1, Hb1⟩ : ∃ b1, Hid (b1 = b.drop n) := ⟨_, Lib.hid rfl⟩
    rw [← Hb1.out] at Hn1
    have hb1 : b1.length = b.length - n := by rw [Hb1.out, List.length_drop]
    clear hn hD hat HR hg
    by_cases he1 : e1 = 0
    rotate_left
    · have he1I : ((e1 : Int) != 0) = true := bne_iff_ne.2 (by omega)
      have hE := Hat.out.err (r := ⟨b, o, 0, dn, ks⟩) HD.out he1
      have HE := Lib.hid hE
      clear hE
      go_wp2_with (go_at_call 81; refine Hn1.out.mono ?_; rintro e' w6 ⟨rfl, hS6⟩; have q6 := run_e hS6; have HS6 := Lib.hid hS6; clear hS6 Hn1)
      ((try simp only [Exit.inBlock, Exit.then]); refine bodyPost_ret (results_none rfl _ _ _) rfl ?_)
      refine ⟨rfl, _, HE.out, HKj.out, ?_⟩
      rw [← Hb1.out]
      exact Hend.out _ _ HS6.out
    subst he1
    have hn0 : 0 < n := d2 rfl
    clear d2 d3
    rcases (by omega : x < 256 ∨ x = 256 ∨ 285 < x ∨ (256 < x ∧ x ≤ 285)) with hx | hx | hx | ⟨hx, hx2⟩
    · -- a byte
      have x1 : ((x : Int) == 256) = false := beq_eq_false_iff_ne.2 (by omega)
      have x2 : decide (x < 256) = true := decide_eq_true hx
      have hol : o.length ≤ 140737488355000 := by have h : (o.length : Int) ≤ max 0 lim := HKj.out.2.2; have := Hab.out.2.2.2.2.1; omega
      have Htl : Hid (∀ w1, Sat w1 (symL p lim TA TB (.slice vao TA.length vaap) (.slice vbo TB.length vbap) PA PB Rs ⟨b1, o, 0, dn, ks⟩) → Calls Tryz.prog 79 #[.pointer (some ⟨p, 0, none⟩), .int .u8 (x : Nat)] w1 fun e' w' => e' = .returned (.tuple #[]) ∧ Sat w' (symL p lim TA TB (.slice vao TA.length vaap) (.slice vbo TB.length vbap) PA PB Rs (RunS.tellS ⟨b1, o, 0, dn, ks⟩ lim (UInt8.ofNat x)))) := by
        intro w1 h
        have h := tell_run h (UInt8.ofNat x) hol
        rw [show (UInt8.ofNat x).toNat = x by rw [UInt8.toNat_ofNat']; omega] at h
        exact h
      clear hol
      by_cases hlm : lim ≤ (o.length : Int)
      · have hE := Hat.out.tell_bad (r := ⟨b, o, 0, dn, ks⟩) HD.out hx hlm
        have HE := Lib.hid hE
        rw [tellS_l (r := ⟨b1, o, 0, dn, ks⟩) _ rfl hlm] at Htl
        clear hE hlm hb60
        go_wp2_with (first
          | (go_at_call 81; refine Hn1.out.mono ?_; rintro e' w6 ⟨rfl, hS6⟩; have q6 := run_e hS6; replace q6 : w6.cell? ⟨p, 4, none⟩ = some (.int .i64 0) := q6; have Htl2 := Lib.hid (Htl.out _ hS6); clear hS6 Hn1 Htl)
          | (go_at_call 79; refine Htl2.out.mono ?_; rintro e' w7 ⟨rfl, hS7⟩; have HS7 := Lib.hid hS7; clear hS7 Htl2))
        go_roundg (gk - 1)
        case measure => have := Hg.out; omega
        case rel => exact ⟨⟨b1, o, 9, dn, ks⟩, by show b1.length + (if 9 = 0 then 1 else 0) ≤ _; have := Hg.out; rw [if_neg (by omega)]; omega, by show b1.length ≤ _; omega, .inr ⟨by show (9 : Nat) ≠ 0; omega, by rw [Hb1.out]; exact HE.out⟩, HKj.out, HS7.out⟩
      · have hE := Hat.out.tell_ok (r := ⟨b, o, 0, dn, ks⟩) HD.out hx hlm
        have HE := Lib.hid hE
        rw [tellS_k (r := ⟨b1, o, 0, dn, ks⟩) _ rfl hlm] at Htl
        have HKn : Hid (Kept lim done kinds ⟨b1, o ++ [UInt8.ofNat x], 0, dn, ks⟩) := ⟨HKj.out.1, HKj.out.2.1, by show ((o ++ [_]).length : Int) ≤ _; rw [List.length_append, List.length_singleton]; omega⟩
        clear hE hlm hb60
        go_wp2_with (first
          | (go_at_call 81; refine Hn1.out.mono ?_; rintro e' w6 ⟨rfl, hS6⟩; have q6 := run_e hS6; replace q6 : w6.cell? ⟨p, 4, none⟩ = some (.int .i64 0) := q6; have Htl2 := Lib.hid (Htl.out _ hS6); clear hS6 Hn1 Htl)
          | (go_at_call 79; refine Htl2.out.mono ?_; rintro e' w7 ⟨rfl, hS7⟩; have HS7 := Lib.hid hS7; clear hS7 Htl2))
        go_roundg (gk - 1)
        case measure => have := Hg.out; omega
        case rel => exact ⟨⟨b1, o ++ [UInt8.ofNat x], 0, dn, ks⟩, by show b1.length + (if 0 = 0 then 1 else 0) ≤ _; have := Hg.out; rw [if_pos rfl]; omega, by show b1.length ≤ _; omega, .inl ⟨rfl, by rw [Hb1.out]; exact HE.out⟩, HKn.out, HS7.out⟩
    · -- the end
      subst hx
      have hE := Hat.out.close (r := ⟨b, o, 0, dn, ks⟩) HD.out rfl
      have HE := Lib.hid hE
      clear hE hb60
      go_wp2_with (go_at_call 81; refine Hn1.out.mono ?_; rintro e' w6 ⟨rfl, hS6⟩; have q6 := run_e hS6; replace q6 : w6.cell? ⟨p, 4, none⟩ = some (.int .i64 0) := q6; have HS6 := Lib.hid hS6; clear hS6 Hn1)
      ((try simp only [Exit.inBlock, Exit.then]); refine bodyPost_ret (results_none rfl _ _ _) rfl ?_)
      refine ⟨rfl, _, HE.out, HKj.out, ?_⟩
      rw [← Hb1.out]
      exact Hend.out _ _ HS6.out
    · -- no symbol
      have x1 : ((x : Int) == 256) = false := beq_eq_false_iff_ne.2 (by omega)
      have x2 : decide (x < 256) = false := decide_eq_false (by omega)
      have x3 : decide (285 < x) = true := decide_eq_true hx
      have x3I : decide ((285 : Int) < (x : Int)) = true := decide_eq_true (by omega)
      have hE := Hat.out.over (r := ⟨b, o, 0, dn, ks⟩) HD.out hx
      have HE := Lib.hid hE
      clear hE hb60
      go_wp2_with (first
        | (go_at_call 81; refine Hn1.out.mono ?_; rintro e' w6 ⟨rfl, hS6⟩; have q6 := run_e hS6; replace q6 : w6.cell? ⟨p, 4, none⟩ = some (.int .i64 0) := q6; have Hf := fail_any hS6 true 6; rw [failS_y (r := ⟨b1, o, 0, dn, ks⟩) 6 rfl] at Hf; have Hf := Lib.hid Hf; clear hS6 Hn1)
        | (go_at_call 78; refine Hf.out.mono ?_; rintro e' w7 ⟨rfl, hS7⟩; have q7 := run_e hS7; replace q7 : w7.cell? ⟨p, 4, none⟩ = some (.int .i64 6) := q7; have HS7 := Lib.hid hS7; clear hS7 Hf q6))
      ((try simp only [Exit.inBlock, Exit.then]); refine bodyPost_ret (results_none rfl _ _ _) rfl ?_)
      refine ⟨rfl, _, HE.out, HKj.out, ?_⟩
      rw [← Hb1.out]
      exact Hend.out _ _ HS7.out
    · -- a copy
      have x1 : ((x : Int) == 256) = false := beq_eq_false_iff_ne.2 (by omega)
      have x2 : decide (x < 256) = false := decide_eq_false (by omega)
      have x3 : decide (285 < x) = false := decide_eq_false (by omega)
      have x3I : decide ((285 : Int) < (x : Int)) = false := decide_eq_false (by omega)
      obtain ⟨t8, hm8, ht8e, ht8b⟩ := Hat.out.len (r := ⟨b, o, 0, dn, ks⟩) HD.out hx hx2
      obtain ⟨z, Hz⟩ : ∃ z, Hid (z = x - 257) := ⟨_, Lib.hid rfl⟩
      have hzI : (x : Int) - 257 = (z : Int) := by rw [Hz.out]; omega
      have hz29 : z < 29 := by rw [Hz.out]; omega
      obtain ⟨l1, l2, l3⟩ := lenE_lim z hz29
      rw [← Hz.out] at ht8e ht8b
      obtain ⟨ex, Hex⟩ : ∃ ex, Hid (ex = (lenE z).1) := ⟨_, Lib.hid rfl⟩
      obtain ⟨ba, Hba⟩ : ∃ ba, Hid (ba = (lenE z).2) := ⟨_, Lib.hid rfl⟩
      rw [← Hex.out] at ht8e l1
      rw [← Hba.out] at ht8b l2 l3
      have HL : Hid (∀ w1, Calls Tryz.prog 82 #[.int .i64 z] w1 fun e' w' => e' = .returned (.tuple #[.int .i64 (ba : Nat), .int .i64 (ex : Nat)]) ∧ ∃ n, w' = w1.drewN n) := by
        intro w1; rw [Hba.out, Hex.out]; exact length_any w1 z (by omega)
      rw [← Hb1.out] at hm8
      have Hm8 := Lib.hid hm8
      have Ht8 : Hid (t8.extra = ex ∧ t8.base = ba) := ⟨ht8e, ht8b⟩
      clear hm8 ht8e ht8b HD Hat hx hx2
      by_cases hex : b1.length < ex
      · -- too few bits for the length
        have hE : Ends lim s0 last ⟨b1, o, 2, dn, ks⟩ := Hm8.out.take8 (r := ⟨b1, o, 0, dn, ks⟩) (by rw [Ht8.out.1]; exact hex)
        have HE := Lib.hid hE
        have Htk : Hid (∀ w1, Sat w1 (symL p lim TA TB (.slice vao TA.length vaap) (.slice vbo TB.length vbap) PA PB Rs ⟨b1, o, 0, dn, ks⟩) → Calls Tryz.prog 45 #[.pointer (some ⟨p, 0, none⟩), .int .i64 ex] w1 fun e' w' => e' = .returned (.int .i64 0) ∧ Sat w' (symL p lim TA TB (.slice vao TA.length vaap) (.slice vbo TB.length vbap) PA PB Rs ⟨b1, o, 2, dn, ks⟩)) := by
          intro w1 h
          have h := take_any h ex (by omega)
          rw [takeS_s (r := ⟨b1, o, 0, dn, ks⟩) (n := ex) rfl hex, takeV_s (r := ⟨b1, o, 0, dn, ks⟩) (n := ex) rfl hex] at h
          exact h
        clear hE hb60 hb1 d1
        go_wp2_with (first
          | (go_at_call 81; refine Hn1.out.mono ?_; rintro e' w6 ⟨rfl, hS6⟩; have q6 := run_e hS6; replace q6 : w6.cell? ⟨p, 4, none⟩ = some (.int .i64 0) := q6; have Hf := fail_any hS6 false 6; rw [failS_n] at Hf; have Hf := Lib.hid Hf; clear hS6 Hn1)
          | (go_at_call 78; refine Hf.out.mono ?_; rintro e' w7 ⟨rfl, hS7⟩; have q7 := run_e hS7; replace q7 : w7.cell? ⟨p, 4, none⟩ = some (.int .i64 0) := q7; have HS7 := Lib.hid hS7; clear hS7 Hf q6)
          | (go_at_call 82; refine (HL.out _).mono ?_; rintro e' w8 ⟨rfl, n8, rfl⟩; have Htk2 := Lib.hid (Htk.out _ (HS7.out.drewN n8)); clear Htk HL)
          | (go_at_call 45; refine Htk2.out.mono ?_; rintro e' w9 ⟨rfl, hS9⟩; have hnB := HnB.out _ _ hS9; rw [nextV_e B (show RunS.e ⟨b1, o, 2, dn, ks⟩ ≠ 0 by show (2 : Nat) ≠ 0; omega), nextS_e B (show RunS.e ⟨b1, o, 2, dn, ks⟩ ≠ 0 by show (2 : Nat) ≠ 0; omega)] at hnB; have Hn2 := Lib.hid hnB; clear Htk2 hS9 hnB)
          | (go_at_call 81; refine Hn2.out.mono ?_; rintro e' w10 ⟨rfl, hS10⟩; have Hf2 := fail_any hS10 false 6; rw [failS_n] at Hf2; have Hf2 := Lib.hid Hf2; clear hS10 Hn2)
          | (go_at_call 78; refine Hf2.out.mono ?_; rintro e' w11 ⟨rfl, hS11⟩; have q11 := run_e hS11; replace q11 : w11.cell? ⟨p, 4, none⟩ = some (.int .i64 2) := q11; have HS11 := Lib.hid hS11; clear hS11 Hf2 q7))
        ((try simp only [Exit.inBlock, Exit.then]); refine bodyPost_ret (results_none rfl _ _ _) rfl ?_)
        exact ⟨rfl, _, HE.out, HKj.out, Hend.out _ _ HS11.out⟩
      -- the length is there
      have hexl : ex ≤ b1.length := by omega
      obtain ⟨t9, hm9, ht9⟩ := Hm8.out.to9 (r := ⟨b1, o, 0, dn, ks⟩) (by rw [Ht8.out.1]; exact hexl)
      rw [Ht8.out.1] at hm9
      rw [Ht8.out.1, Ht8.out.2] at ht9
      obtain ⟨y, Hy⟩ : ∃ y, Hid (y = num (b1.take ex)) := ⟨_, Lib.hid rfl⟩
      have hy : y < 32 := by rw [Hy.out]; exact num_take_lt _ _ 5 l1
      obtain ⟨b2, Hb2⟩ : ∃ b2, Hid (b2 = b1.drop ex) := ⟨_, Lib.hid rfl⟩
      replace hm9 : AtMid lim s0 last A B 9 ⟨b2, o, 0, dn, ks⟩ t9 := by rw [Hb2.out]; exact hm9
      replace ht9 : t9.left = ba + y := by rw [Hy.out]; exact ht9
      have hb2 : b2.length = b1.length - ex := by rw [Hb2.out, List.length_drop]
      have Hm9 := Lib.hid hm9
      have Ht9 := Lib.hid ht9
      have Htk : Hid (∀ w1, Sat w1 (symL p lim TA TB (.slice vao TA.length vaap) (.slice vbo TB.length vbap) PA PB Rs ⟨b1, o, 0, dn, ks⟩) → Calls Tryz.prog 45 #[.pointer (some ⟨p, 0, none⟩), .int .i64 ex] w1 fun e' w' => e' = .returned (.int .i64 (y : Nat)) ∧ Sat w' (symL p lim TA TB (.slice vao TA.length vaap) (.slice vbo TB.length vbap) PA PB Rs ⟨b2, o, 0, dn, ks⟩)) := by
        intro w1 h
        have h := take_any h ex (by omega)
        rw [takeS_k (r := ⟨b1, o, 0, dn, ks⟩) (n := ex) rfl hexl, takeV_k (r := ⟨b1, o, 0, dn, ks⟩) (n := ex) rfl hexl] at h
        rw [Hy.out, Hb2.out]
        exact h
      obtain ⟨⟨t, e2, n2⟩, hD2⟩ : ∃ D, decL B b2 = D := ⟨_, rfl⟩
      obtain ⟨g1, g2, g3⟩ := decL_good hD2
      have HD2 := Lib.hid hD2
      obtain ⟨b3, Hb3⟩ : ∃ b3, Hid (b3 = b2.drop n2) := ⟨_, Lib.hid rfl⟩
      have hb3 : b3.length = b2.length - n2 := by rw [Hb3.out, List.length_drop]
      have HnB2 : Hid (∀ w1, Sat w1 (symL p lim TA TB (.slice vao TA.length vaap) (.slice vbo TB.length vbap) PA PB Rs ⟨b2, o, 0, dn, ks⟩) → Calls Tryz.prog 81 #[.pointer (some ⟨p, 0, none⟩), .slice vbo TB.length vbap] w1 fun e' w' => e' = .returned (.int .i64 (t : Nat)) ∧ Sat w' (symL p lim TA TB (.slice vao TA.length vaap) (.slice vbo TB.length vbap) PA PB Rs ⟨b3, o, e2, dn, ks⟩)) := by
        intro w1 h
        have h := HnB.out _ _ h
        rw [nextV_k (r := ⟨b2, o, 0, dn, ks⟩) rfl, nextS_k (r := ⟨b2, o, 0, dn, ks⟩) rfl] at h
        simp only [HD2.out] at h
        rw [Hb3.out]
        exact h
      clear hm9 ht9 Hm8 Ht8 hD2 hex HnA HnB g2 g3
      by_cases he2 : e2 = 0
      rotate_left
      · -- no distance's symbol
        have he2I : ((e2 : Int) != 0) = true := bne_iff_ne.2 (by omega)
        have hE : Ends lim s0 last ⟨b3, o, e2, dn, ks⟩ := by rw [Hb3.out]; exact Hm9.out.err9 (r := ⟨b2, o, 0, dn, ks⟩) HD2.out he2
        have HE := Lib.hid hE
        have Hf2 : Hid (∀ w1, Sat w1 (symL p lim TA TB (.slice vao TA.length vaap) (.slice vbo TB.length vbap) PA PB Rs ⟨b3, o, e2, dn, ks⟩) → ∀ b, Calls Tryz.prog 78 #[.pointer (some ⟨p, 0, none⟩), .bool b, .int .i64 6] w1 fun e' w' => e' = .returned (.tuple #[]) ∧ Sat w' (symL p lim TA TB (.slice vao TA.length vaap) (.slice vbo TB.length vbap) PA PB Rs ⟨b3, o, e2, dn, ks⟩)) := by
          intro w1 h b
          have h := fail_any h b 6
          rw [failS_e b 6 (show RunS.e ⟨b3, o, e2, dn, ks⟩ ≠ 0 from he2)] at h
          exact h
        clear hE hb60 hb1 d1 hb2 hb3 g1
        go_wp2_with (first
          | (go_at_call 81; refine Hn1.out.mono ?_; rintro e' w6 ⟨rfl, hS6⟩; have q6 := run_e hS6; replace q6 : w6.cell? ⟨p, 4, none⟩ = some (.int .i64 0) := q6; have Hf := fail_any hS6 false 6; rw [failS_n] at Hf; have Hf := Lib.hid Hf; clear hS6 Hn1)
          | (go_at_call 78; refine Hf.out.mono ?_; rintro e' w7 ⟨rfl, hS7⟩; have q7 := run_e hS7; replace q7 : w7.cell? ⟨p, 4, none⟩ = some (.int .i64 0) := q7; have HS7 := Lib.hid hS7; clear hS7 Hf q6)
          | (go_at_call 82; refine (HL.out _).mono ?_; rintro e' w8 ⟨rfl, n8, rfl⟩; have Htk2 := Lib.hid (Htk.out _ (HS7.out.drewN n8)); clear Htk HL)
          | (go_at_call 45; refine Htk2.out.mono ?_; rintro e' w9 ⟨rfl, hS9⟩; have Hn2 := Lib.hid (HnB2.out _ hS9); clear Htk2 hS9 HnB2)
          | (go_at_call 81; refine Hn2.out.mono ?_; rintro e' w10 ⟨rfl, hS10⟩; have Hff := Lib.hid (Hf2.out _ hS10); clear hS10 Hn2 Hf2)
          | (go_at_call 78; refine (Hff.out _).mono ?_; rintro e' w11 ⟨rfl, hS11⟩; have q11 := run_e hS11; replace q11 : w11.cell? ⟨p, 4, none⟩ = some (.int .i64 e2) := q11; have HS11 := Lib.hid hS11; clear hS11 Hff q7))
        ((try simp only [Exit.inBlock, Exit.then]); refine bodyPost_ret (results_none rfl _ _ _) rfl ?_)
        exact ⟨rfl, _, HE.out, HKj.out, Hend.out _ _ HS11.out⟩
      subst he2
      by_cases ht : 29 < t
      · have htd : decide (29 < t) = true := decide_eq_true ht
        have htdI : decide ((29 : Int) < (t : Int)) = true := decide_eq_true (by omega)
        have hE : Ends lim s0 last ⟨b3, o, 6, dn, ks⟩ := by rw [Hb3.out]; exact Hm9.out.over9 (r := ⟨b2, o, 0, dn, ks⟩) HD2.out ht
        have HE := Lib.hid hE
        have Hf2 : Hid (∀ w1, Sat w1 (symL p lim TA TB (.slice vao TA.length vaap) (.slice vbo TB.length vbap) PA PB Rs ⟨b3, o, 0, dn, ks⟩) → Calls Tryz.prog 78 #[.pointer (some ⟨p, 0, none⟩), .bool true, .int .i64 6] w1 fun e' w' => e' = .returned (.tuple #[]) ∧ Sat w' (symL p lim TA TB (.slice vao TA.length vaap) (.slice vbo TB.length vbap) PA PB Rs ⟨b3, o, 6, dn, ks⟩)) := by
          intro w1 h
          have h := fail_any h true 6
          rw [failS_y (r := ⟨b3, o, 0, dn, ks⟩) 6 rfl] at h
          exact h
        clear hE hb60 hb1 d1 hb2 hb3 g1
        go_wp2_with (first
          | (go_at_call 81; refine Hn1.out.mono ?_; rintro e' w6 ⟨rfl, hS6⟩; have q6 := run_e hS6; replace q6 : w6.cell? ⟨p, 4, none⟩ = some (.int .i64 0) := q6; have Hf := fail_any hS6 false 6; rw [failS_n] at Hf; have Hf := Lib.hid Hf; clear hS6 Hn1)
          | (go_at_call 78; refine Hf.out.mono ?_; rintro e' w7 ⟨rfl, hS7⟩; have q7 := run_e hS7; replace q7 : w7.cell? ⟨p, 4, none⟩ = some (.int .i64 0) := q7; have HS7 := Lib.hid hS7; clear hS7 Hf q6)
          | (go_at_call 82; refine (HL.out _).mono ?_; rintro e' w8 ⟨rfl, n8, rfl⟩; have Htk2 := Lib.hid (Htk.out _ (HS7.out.drewN n8)); clear Htk HL)
          | (go_at_call 45; refine Htk2.out.mono ?_; rintro e' w9 ⟨rfl, hS9⟩; have Hn2 := Lib.hid (HnB2.out _ hS9); clear Htk2 hS9 HnB2)
          | (go_at_call 81; refine Hn2.out.mono ?_; rintro e' w10 ⟨rfl, hS10⟩; have Hff := Lib.hid (Hf2.out _ hS10); clear hS10 Hn2 Hf2)
          | (go_at_call 78; refine Hff.out.mono ?_; rintro e' w11 ⟨rfl, hS11⟩; have q11 := run_e hS11; replace q11 : w11.cell? ⟨p, 4, none⟩ = some (.int .i64 6) := q11; have HS11 := Lib.hid hS11; clear hS11 Hff q7))
        ((try simp only [Exit.inBlock, Exit.then]); refine bodyPost_ret (results_none rfl _ _ _) rfl ?_)
        exact ⟨rfl, _, HE.out, HKj.out, Hend.out _ _ HS11.out⟩
      -- a distance
      have htd : decide (29 < t) = false := decide_eq_false ht
      have htdI : decide ((29 : Int) < (t : Int)) = false := decide_eq_false (by omega)
      obtain ⟨t10, hm10, ht10e, ht10b, ht10l⟩ := Hm9.out.to10 (r := ⟨b2, o, 0, dn, ks⟩) HD2.out ht
      obtain ⟨k1, k2, k3⟩ := disE_lim t (by omega)
      obtain ⟨dx, Hdx⟩ : ∃ dx, Hid (dx = (disE t).1) := ⟨_, Lib.hid rfl⟩
      obtain ⟨db, Hdb⟩ : ∃ db, Hid (db = (disE t).2) := ⟨_, Lib.hid rfl⟩
      rw [← Hdx.out] at ht10e k1
      rw [← Hdb.out] at ht10b k2 k3
      rw [Ht9.out] at ht10l
      have HDs : Hid (∀ w1, Calls Tryz.prog 83 #[.int .i64 t] w1 fun e' w' => e' = .returned (.tuple #[.int .i64 (db : Nat), .int .i64 (dx : Nat)]) ∧ ∃ n, w' = w1.drewN n) := by
        intro w1; rw [Hdb.out, Hdx.out]; exact distance_any w1 t (by omega)
      replace hm10 : AtMid lim s0 last A B 10 ⟨b3, o, 0, dn, ks⟩ t10 := by rw [Hb3.out]; exact hm10
      have Hm10 := Lib.hid hm10
      have Ht10 : Hid (t10.extra = dx ∧ t10.base = db ∧ t10.left = ba + y) := ⟨ht10e, ht10b, ht10l⟩
      have Hf2 : Hid (∀ w1, Sat w1 (symL p lim TA TB (.slice vao TA.length vaap) (.slice vbo TB.length vbap) PA PB Rs ⟨b3, o, 0, dn, ks⟩) → Calls Tryz.prog 78 #[.pointer (some ⟨p, 0, none⟩), .bool false, .int .i64 6] w1 fun e' w' => e' = .returned (.tuple #[]) ∧ Sat w' (symL p lim TA TB (.slice vao TA.length vaap) (.slice vbo TB.length vbap) PA PB Rs ⟨b3, o, 0, dn, ks⟩)) := by
        intro w1 h
        have h := fail_any h false 6
        rw [failS_n] at h
        exact h
      obtain ⟨oK, HoK⟩ : ∃ oK : Nat, Hid (oK = o.length) := ⟨_, Lib.hid rfl⟩
      clear hm10 ht10e ht10b ht10l Hm9 Ht9 HD2 ht
      by_cases hdx : b3.length < dx
      · -- too few bits for the distance
        have hE : Ends lim s0 last ⟨b3, o, 2, dn, ks⟩ := Hm10.out.take10 (r := ⟨b3, o, 0, dn, ks⟩) (by rw [Ht10.out.1]; exact hdx)
        have HE := Lib.hid hE
        have Htk3 : Hid (∀ w1, Sat w1 (symL p lim TA TB (.slice vao TA.length vaap) (.slice vbo TB.length vbap) PA PB Rs ⟨b3, o, 0, dn, ks⟩) → Calls Tryz.prog 45 #[.pointer (some ⟨p, 0, none⟩), .int .i64 dx] w1 fun e' w' => e' = .returned (.int .i64 0) ∧ Sat w' (symL p lim TA TB (.slice vao TA.length vaap) (.slice vbo TB.length vbap) PA PB Rs ⟨b3, o, 2, dn, ks⟩)) := by
          intro w1 h
          have h := take_any h dx (by omega)
          rw [takeS_s (r := ⟨b3, o, 0, dn, ks⟩) (n := dx) rfl hdx, takeV_s (r := ⟨b3, o, 0, dn, ks⟩) (n := dx) rfl hdx] at h
          exact h
        have Hf3 : Hid (∀ w1, Sat w1 (symL p lim TA TB (.slice vao TA.length vaap) (.slice vbo TB.length vbap) PA PB Rs ⟨b3, o, 2, dn, ks⟩) → ∀ b, Calls Tryz.prog 78 #[.pointer (some ⟨p, 0, none⟩), .bool b, .int .i64 7] w1 fun e' w' => e' = .returned (.tuple #[]) ∧ Sat w' (symL p lim TA TB (.slice vao TA.length vaap) (.slice vbo TB.length vbap) PA PB Rs ⟨b3, o, 2, dn, ks⟩)) := by
          intro w1 h b
          have h := fail_any h b 7
          rw [failS_e b 7 (show RunS.e ⟨b3, o, 2, dn, ks⟩ ≠ 0 by show (2 : Nat) ≠ 0; omega)] at h
          exact h
        have Hbn : Hid (b3.length + 1 ≤ gk ∧ b3.length ≤ bits.length) := by have := Hg.out; unfold Hid; omega
        clear hE hb60 hb1 d1 hb2 hb3 g1 hdx
        go_wp2_with (first
          | (go_at_call 81; refine Hn1.out.mono ?_; rintro e' w6 ⟨rfl, hS6⟩; have q6 := run_e hS6; replace q6 : w6.cell? ⟨p, 4, none⟩ = some (.int .i64 0) := q6; have Hf := fail_any hS6 false 6; rw [failS_n] at Hf; have Hf := Lib.hid Hf; clear hS6 Hn1)
          | (go_at_call 78; refine Hf.out.mono ?_; rintro e' w7 ⟨rfl, hS7⟩; have q7 := run_e hS7; replace q7 : w7.cell? ⟨p, 4, none⟩ = some (.int .i64 0) := q7; have HS7 := Lib.hid hS7; clear hS7 Hf q6)
          | (go_at_call 82; refine (HL.out _).mono ?_; rintro e' w8 ⟨rfl, n8, rfl⟩; have Htk2 := Lib.hid (Htk.out _ (HS7.out.drewN n8)); clear Htk HL)
          | (go_at_call 45; refine Htk2.out.mono ?_; rintro e' w9 ⟨rfl, hS9⟩; have Hn2 := Lib.hid (HnB2.out _ hS9); clear Htk2 hS9 HnB2)
          | (go_at_call 81; refine Hn2.out.mono ?_; rintro e' w10 ⟨rfl, hS10⟩; have Hff := Lib.hid (Hf2.out _ hS10); clear hS10 Hn2 Hf2)
          | (go_at_call 78; refine Hff.out.mono ?_; rintro e' w11 ⟨rfl, hS11⟩; have q11 := run_e hS11; replace q11 : w11.cell? ⟨p, 4, none⟩ = some (.int .i64 0) := q11; have HS11 := Lib.hid hS11; clear hS11 Hff q7)
          | (go_at_call 83; refine (HDs.out _).mono ?_; rintro e' w12 ⟨rfl, n12, rfl⟩; have Htk4 := Lib.hid (Htk3.out _ (HS11.out.drewN n12)); clear Htk3 HDs)
          | (go_at_call 45; refine Htk4.out.mono ?_; rintro e' w13 ⟨rfl, hS13⟩; obtain ⟨oo, oap, c2, -, -⟩ := run_out hS13; have Hf4 := Lib.hid (Hf3.out _ hS13); clear Htk4 hS13 Hf3)
          | (go_at_call 78; refine (Hf4.out _).mono ?_; rintro e' w14 ⟨rfl, hS14⟩; have q14 := run_e hS14; replace q14 : w14.cell? ⟨p, 4, none⟩ = some (.int .i64 2) := q14; have HS14 := Lib.hid hS14; clear hS14 Hf4 q11 c2))
        go_loopw [14] (fun i wz => i = .int .i64 0 ∧ wz = w14) (fun _ _ => 0)
        case atStart => exact ⟨rfl, rfl⟩
        case round =>
          obtain ⟨rfl, rfl⟩ := hrel
          have hv0 : decide ((0 : Int) < (ba : Int) + (y : Int)) = true := decide_eq_true (by omega)
          go_wp2
          go_roundg (gk - 1)
          case measure => have := Hg.out; omega
          case rel => exact ⟨⟨b3, o, 2, dn, ks⟩, by show b3.length + (if 2 = 0 then 1 else 0) ≤ _; have := Hbn.out.1; rw [if_neg (by omega)]; omega, Hbn.out.2, .inr ⟨by show (2 : Nat) ≠ 0; omega, HE.out⟩, HKj.out, HS14.out⟩
      have hdxl : dx ≤ b3.length := by omega
      obtain ⟨q, Hq⟩ : ∃ q, Hid (q = num (b3.take dx)) := ⟨_, Lib.hid rfl⟩
      have hq : q < 8192 := by rw [Hq.out]; exact num_take_lt _ _ 13 k1
      obtain ⟨b4, Hb4⟩ : ∃ b4, Hid (b4 = b3.drop dx) := ⟨_, Lib.hid rfl⟩
      have hb4 : b4.length = b3.length - dx := by rw [Hb4.out, List.length_drop]
      have Htk3 : Hid (∀ w1, Sat w1 (symL p lim TA TB (.slice vao TA.length vaap) (.slice vbo TB.length vbap) PA PB Rs ⟨b3, o, 0, dn, ks⟩) → Calls Tryz.prog 45 #[.pointer (some ⟨p, 0, none⟩), .int .i64 dx] w1 fun e' w' => e' = .returned (.int .i64 (q : Nat)) ∧ Sat w' (symL p lim TA TB (.slice vao TA.length vaap) (.slice vbo TB.length vbap) PA PB Rs ⟨b4, o, 0, dn, ks⟩)) := by
        intro w1 h
        have h := take_any h dx (by omega)
        rw [takeS_k (r := ⟨b3, o, 0, dn, ks⟩) (n := dx) rfl hdxl, takeV_k (r := ⟨b3, o, 0, dn, ks⟩) (n := dx) rfl hdxl] at h
        rw [Hq.out, Hb4.out]
        exact h
      obtain ⟨far, Hfar⟩ : ∃ far, Hid (far = db + q) := ⟨_, Lib.hid rfl⟩
      have hfarI : (db : Int) + (q : Int) = (far : Int) := by rw [Hfar.out]; rfl
      obtain ⟨K, HKK⟩ : ∃ K, Hid (K = ba + y) := ⟨_, Lib.hid rfl⟩
      have hKI : (ba : Int) + (y : Int) = (K : Int) := by rw [HKK.out]; rfl
      have hK0 : 0 < K := by rw [HKK.out]; omega
      have hfar1 : 1 ≤ far := by rw [Hfar.out]; omega
      have Hbn : Hid (b4.length + 1 ≤ gk - 1 ∧ b4.length ≤ bits.length) := by have := Hg.out; unfold Hid; omega
      by_cases hfo : o.length < far
      · -- too far
        have hE : Ends lim s0 last ⟨b4, o, 7, dn, ks⟩ := by
          have h := Hm10.out.far10 (r := ⟨b3, o, 0, dn, ks⟩) (by rw [Ht10.out.1]; exact hdxl) (by rw [Ht10.out.1, Ht10.out.2.1]; show o.length < db + num (b3.take dx); rw [← Hq.out, ← Hfar.out]; exact hfo)
          rw [Ht10.out.1] at h
          rw [Hb4.out]
          exact h
        have HE := Lib.hid hE
        have hfd : decide (o.length < far) = true := decide_eq_true hfo
        have Hf3 : Hid (∀ w1, Sat w1 (symL p lim TA TB (.slice vao TA.length vaap) (.slice vbo TB.length vbap) PA PB Rs ⟨b4, o, 0, dn, ks⟩) → Calls Tryz.prog 78 #[.pointer (some ⟨p, 0, none⟩), .bool true, .int .i64 7] w1 fun e' w' => e' = .returned (.tuple #[]) ∧ Sat w' (symL p lim TA TB (.slice vao TA.length vaap) (.slice vbo TB.length vbap) PA PB Rs ⟨b4, o, 7, dn, ks⟩)) := by
          intro w1 h
          have h := fail_any h true 7
          rw [failS_y (r := ⟨b4, o, 0, dn, ks⟩) 7 rfl] at h
          exact h
        clear hE hb60 hb1 d1 hb2 hb3 g1 hdx hb4
        go_wp2_with (first
          | (go_at_call 81; refine Hn1.out.mono ?_; rintro e' w6 ⟨rfl, hS6⟩; have q6 := run_e hS6; replace q6 : w6.cell? ⟨p, 4, none⟩ = some (.int .i64 0) := q6; have Hf := fail_any hS6 false 6; rw [failS_n] at Hf; have Hf := Lib.hid Hf; clear hS6 Hn1)
          | (go_at_call 78; refine Hf.out.mono ?_; rintro e' w7 ⟨rfl, hS7⟩; have q7 := run_e hS7; replace q7 : w7.cell? ⟨p, 4, none⟩ = some (.int .i64 0) := q7; have HS7 := Lib.hid hS7; clear hS7 Hf q6)
          | (go_at_call 82; refine (HL.out _).mono ?_; rintro e' w8 ⟨rfl, n8, rfl⟩; have Htk2 := Lib.hid (Htk.out _ (HS7.out.drewN n8)); clear Htk HL)
          | (go_at_call 45; refine Htk2.out.mono ?_; rintro e' w9 ⟨rfl, hS9⟩; have Hn2 := Lib.hid (HnB2.out _ hS9); clear Htk2 hS9 HnB2)
          | (go_at_call 81; refine Hn2.out.mono ?_; rintro e' w10 ⟨rfl, hS10⟩; have Hff := Lib.hid (Hf2.out _ hS10); clear hS10 Hn2 Hf2)
          | (go_at_call 78; refine Hff.out.mono ?_; rintro e' w11 ⟨rfl, hS11⟩; have q11 := run_e hS11; replace q11 : w11.cell? ⟨p, 4, none⟩ = some (.int .i64 0) := q11; have HS11 := Lib.hid hS11; clear hS11 Hff q7)
          | (go_at_call 83; refine (HDs.out _).mono ?_; rintro e' w12 ⟨rfl, n12, rfl⟩; have Htk4 := Lib.hid (Htk3.out _ (HS11.out.drewN n12)); clear Htk3 HDs)
          | (go_at_call 45; refine Htk4.out.mono ?_; rintro e' w13 ⟨rfl, hS13⟩; obtain ⟨oo, oap, c2, -, -⟩ := run_out hS13; have Hf4 := Lib.hid (Hf3.out _ hS13); clear Htk4 hS13 Hf3)
          | (go_at_call 78; refine Hf4.out.mono ?_; rintro e' w14 ⟨rfl, hS14⟩; have q14 := run_e hS14; replace q14 : w14.cell? ⟨p, 4, none⟩ = some (.int .i64 7) := q14; have HS14 := Lib.hid hS14; clear hS14 Hf4 q11 c2))
        go_loopw [14] (fun i wz => i = .int .i64 0 ∧ wz = w14) (fun _ _ => 0)
        case atStart => exact ⟨rfl, rfl⟩
        case round =>
          obtain ⟨rfl, rfl⟩ := hrel
          go_wp2
          go_roundg (gk - 1)
          case measure => have := Hg.out; omega
          case rel => exact ⟨⟨b4, o, 7, dn, ks⟩, by show b4.length + (if 7 = 0 then 1 else 0) ≤ _; have := Hbn.out.1; rw [if_neg (by omega)]; omega, Hbn.out.2, .inr ⟨by show (7 : Nat) ≠ 0; omega, HE.out⟩, HKj.out, HS14.out⟩
      -- the copy itself
      have hfd : decide (o.length < far) = false := decide_eq_false hfo
      have hcp := Hm10.out.copy (r := ⟨b3, o, 0, dn, ks⟩) (by rw [Ht10.out.1]; exact hdxl) (by rw [Ht10.out.1, Ht10.out.2.1]; show ¬ o.length < db + num (b3.take dx); rw [← Hq.out, ← Hfar.out]; exact hfo)
      rw [Ht10.out.1, Ht10.out.2.1, Ht10.out.2.2] at hcp
      have hcp2 : CopI lim s0 last A B far K ⟨b4, o, 0, dn, ks⟩ := .inl ⟨rfl, by show far ≤ o.length; omega, by rw [HKK.out, Hb4.out, Hfar.out, Hq.out]; exact hcp⟩
      have Hcp := Lib.hid hcp2
      have Hf3 : Hid (∀ w1, Sat w1 (symL p lim TA TB (.slice vao TA.length vaap) (.slice vbo TB.length vbap) PA PB Rs ⟨b4, o, 0, dn, ks⟩) → Calls Tryz.prog 78 #[.pointer (some ⟨p, 0, none⟩), .bool false, .int .i64 7] w1 fun e' w' => e' = .returned (.tuple #[]) ∧ Sat w' (symL p lim TA TB (.slice vao TA.length vaap) (.slice vbo TB.length vbap) PA PB Rs ⟨b4, o, 0, dn, ks⟩)) := by
        intro w1 h
        have h := fail_any h false 7
        rw [failS_n] at h
        exact h
      clear hcp hcp2 hb60 hb1 d1 hb2 hb3 g1 hdx hb4 Hm10 Ht10 hfo
      go_wp2_with (first
          | (go_at_call 81; refine Hn1.out.mono ?_; rintro e' w6 ⟨rfl, hS6⟩; have q6 := run_e hS6; replace q6 : w6.cell? ⟨p, 4, none⟩ = some (.int .i64 0) := q6; have Hf := fail_any hS6 false 6; rw [failS_n] at Hf; have Hf := Lib.hid Hf; clear hS6 Hn1)
          | (go_at_call 78; refine Hf.out.mono ?_; rintro e' w7 ⟨rfl, hS7⟩; have q7 := run_e hS7; replace q7 : w7.cell? ⟨p, 4, none⟩ = some (.int .i64 0) := q7; have HS7 := Lib.hid hS7; clear hS7 Hf q6)
          | (go_at_call 82; refine (HL.out _).mono ?_; rintro e' w8 ⟨rfl, n8, rfl⟩; have Htk2 := Lib.hid (Htk.out _ (HS7.out.drewN n8)); clear Htk HL)
          | (go_at_call 45; refine Htk2.out.mono ?_; rintro e' w9 ⟨rfl, hS9⟩; have Hn2 := Lib.hid (HnB2.out _ hS9); clear Htk2 hS9 HnB2)
          | (go_at_call 81; refine Hn2.out.mono ?_; rintro e' w10 ⟨rfl, hS10⟩; have Hff := Lib.hid (Hf2.out _ hS10); clear hS10 Hn2 Hf2)
          | (go_at_call 78; refine Hff.out.mono ?_; rintro e' w11 ⟨rfl, hS11⟩; have q11 := run_e hS11; replace q11 : w11.cell? ⟨p, 4, none⟩ = some (.int .i64 0) := q11; have HS11 := Lib.hid hS11; clear hS11 Hff q7)
          | (go_at_call 83; refine (HDs.out _).mono ?_; rintro e' w12 ⟨rfl, n12, rfl⟩; have Htk4 := Lib.hid (Htk3.out _ (HS11.out.drewN n12)); clear Htk3 HDs)
          | (go_at_call 45; refine Htk4.out.mono ?_; rintro e' w13 ⟨rfl, hS13⟩; obtain ⟨oo, oap, c2, -, -⟩ := run_out hS13; have Hf4 := Lib.hid (Hf3.out _ hS13); clear Htk4 hS13 Hf3)
          | (go_at_call 78; refine Hf4.out.mono ?_; rintro e' w14 ⟨rfl, hS14⟩; have q14 := run_e hS14; replace q14 : w14.cell? ⟨p, 4, none⟩ = some (.int .i64 0) := q14; have HS14 := Lib.hid hS14; clear hS14 Hf4 q11 c2))
      go_loopw [14] (fun i wz => ∃ (j : Nat) (r : RunS), j ≤ K ∧ i = .int .i64 j ∧ r.bits = b4 ∧ Hid (CopI lim s0 last A B far (K - j) r) ∧ Hid (Kept lim done kinds r) ∧ Hid (Sat wz (symL p lim TA TB (.slice vao TA.length vaap) (.slice vbo TB.length vbap) PA PB Rs r))) (fun i _ => K - (intOf i).toNat)
      case atStart => exact ⟨0, _, by omega, rfl, rfl, Hcp.out, HKj.out, HS14.out⟩
      case round =>
        obtain ⟨j, ⟨b5, o5, e5, dn5, ks5⟩, hj, rfl, hb5, HC, HK5, HS15⟩ := hrel
        replace hb5 : b5 = b4 := hb5
        subst hb5
        have q15 := run_e HS15.out
        clear HS14 q14 Hcp HKj
        rcases HC.out with ⟨he5, hf5, t5, hc5⟩ | ⟨he5, hE5⟩
        rotate_left
        · replace he5 : e5 ≠ 0 := he5
          have heI : ((e5 : Int) == 0) = false := beq_eq_false_iff_ne.2 (by omega)
          have HE := Lib.hid hE5
          clear hE5 HC
          by_cases hjk : j < K
          · have hjd : decide (j < K) = true := decide_eq_true hjk
            go_wp2
            go_roundg (gk - 1)
            case measure => have := Hg.out; omega
            case rel => exact ⟨⟨b5, o5, e5, dn5, ks5⟩, by show b5.length + (if e5 = 0 then 1 else 0) ≤ _; have := Hbn.out.1; rw [if_neg he5]; omega, Hbn.out.2, .inr ⟨he5, HE.out⟩, HK5.out, HS15.out⟩
          · have hjd : decide (j < K) = false := decide_eq_false hjk
            go_wp2
            go_roundg (gk - 1)
            case measure => have := Hg.out; omega
            case rel => exact ⟨⟨b5, o5, e5, dn5, ks5⟩, by show b5.length + (if e5 = 0 then 1 else 0) ≤ _; have := Hbn.out.1; rw [if_neg he5]; omega, Hbn.out.2, .inr ⟨he5, HE.out⟩, HK5.out, HS15.out⟩
        replace he5 : e5 = 0 := he5
        subst he5
        replace q15 : wr.cell? ⟨p, 4, none⟩ = some (.int .i64 0) := q15
        replace hf5 : far ≤ o5.length := hf5
        have Hc5 := Lib.hid hc5
        clear hc5 HC
        by_cases hjk : j < K
        rotate_left
        · have hjd : decide (j < K) = false := decide_eq_false hjk
          rw [show K - j = 0 by omega] at Hc5
          have Hz := Lib.hid Hc5.out.zero
          go_wp2
          go_roundg (gk - 1)
          case measure => have := Hg.out; omega
          case rel => exact ⟨⟨b5, o5, 0, dn5, ks5⟩, by show b5.length + (if 0 = 0 then 1 else 0) ≤ _; have := Hbn.out.1; rw [if_pos rfl]; omega, Hbn.out.2, .inl ⟨rfl, Hz.out⟩, HK5.out, HS15.out⟩
        have hjd : decide (j < K) = true := decide_eq_true hjk
        obtain ⟨kk, Hkk⟩ : ∃ kk, Hid (K - j = kk + 1) := ⟨K - j - 1, by unfold Hid; omega⟩
        rw [Hkk.out] at Hc5
        obtain ⟨ix, Hix⟩ : ∃ ix, Hid (ix = o5.length - far) := ⟨_, Lib.hid rfl⟩
        have hixI : (o5.length : Int) - (far : Int) = (ix : Int) := by rw [Hix.out]; omega
        have hixl : ix < o5.length := by rw [Hix.out]; omega
        have hix0 : (0 : Int) ≤ (ix : Int) := by omega
        have hix1 : (ix : Int) < (o5.length : Int) := by omega
        obtain ⟨c, hc⟩ : ∃ c, o5[ix]? = some c := ⟨_, List.getElem?_eq_getElem hixl⟩
        obtain ⟨oo, oap, c2, hoap, hcell⟩ := run_out HS15.out
        obtain ⟨ob, off, rfl, cc⟩ := hcell ix c hc
        have Hcv : Hid ((o5[o5.length - far]?).getD 0 = c) := by unfold Hid; rw [← Hix.out, hc]; rfl
        have hol : o5.length ≤ 140737488355000 := by have h : (o5.length : Int) ≤ max 0 lim := HK5.out.2.2; have := Hab.out.2.2.2.2.1; omega
        have Htl := Lib.hid (fun n => tell_run (HS15.out.drewN n) c hol)
        have hol2 : o5.length ≤ 1099511627776 := by have h : (o5.length : Int) ≤ max 0 lim := HK5.out.2.2; have := Hab.out.2.2.2.2.1; omega
        have hw1 : IntKind.i64.wrap ((o5.length : Int) - (far : Int)) = (ix : Int) := (i64_id _ (by omega) (by omega)).trans hixI
        have hw2 : IntKind.i64.wrap (ix : Int) = (ix : Int) := i64_id _ (by omega) (by omega)
        clear hcell hol hc
        by_cases hlm : lim ≤ (o5.length : Int)
        · have HE := Lib.hid (Hc5.out.bad (r := ⟨b5, o5, 0, dn5, ks5⟩) hlm)
          rw [tellS_l (r := ⟨b5, o5, 0, dn5, ks5⟩) _ rfl hlm] at Htl
          have hc2d : ∀ n, (wr.drewN n).cell? ⟨p, 2, none⟩ = some (.slice (some ⟨ob, off, none⟩) o5.length oap) := fun _ => c2
          have HTl : Hid (Calls Tryz.prog 79 #[.pointer (some ⟨p, 0, none⟩), .int .u8 (c.toNat : Nat)] wr.drew fun e' w' => e' = .returned (.tuple #[]) ∧ Sat w' (symL p lim TA TB (.slice vao TA.length vaap) (.slice vbo TB.length vbap) PA PB Rs ⟨b5, o5, 9, dn5, ks5⟩)) := Htl.out 1
          clear hc2d Htl hlm
          go_wp2
          go_region_with (go_at_call 79; refine HTl.out.mono ?_; rintro e' w16 ⟨rfl, hS16⟩; have HS16 := Lib.hid hS16; clear hS16 HTl)
          all_goals
            go_wp2
            exact ⟨⟨j + 1, ⟨b5, o5, 9, dn5, ks5⟩, by omega, vi (by omega), rfl, .inr ⟨by show (9 : Nat) ≠ 0; omega, HE.out⟩, HK5.out, HS16.out⟩, by simp [intOf]; omega⟩
        · have HE := Lib.hid (Hc5.out.ok (r := ⟨b5, o5, 0, dn5, ks5⟩) hlm)
          rw [tellS_k (r := ⟨b5, o5, 0, dn5, ks5⟩) _ rfl hlm] at Htl
          have HTl : Hid (Calls Tryz.prog 79 #[.pointer (some ⟨p, 0, none⟩), .int .u8 (c.toNat : Nat)] wr.drew fun e' w' => e' = .returned (.tuple #[]) ∧ Sat w' (symL p lim TA TB (.slice vao TA.length vaap) (.slice vbo TB.length vbap) PA PB Rs ⟨b5, o5 ++ [c], 0, dn5, ks5⟩)) := Htl.out 1
          have HKn : Hid (Kept lim done kinds ⟨b5, o5 ++ [c], 0, dn5, ks5⟩) := ⟨HK5.out.1, HK5.out.2.1, by show ((o5 ++ [_]).length : Int) ≤ _; rw [List.length_append, List.length_singleton]; omega⟩
          clear Htl hlm
          go_wp2
          go_region_with (go_at_call 79; refine HTl.out.mono ?_; rintro e' w16 ⟨rfl, hS16⟩; have HS16 := Lib.hid hS16; clear hS16 HTl)
          all_goals
            go_wp2
            refine ⟨⟨j + 1, ⟨b5, o5 ++ [c], 0, dn5, ks5⟩, by omega, vi (by omega), rfl, .inl ⟨rfl, by show far ≤ (o5 ++ [c]).length; rw [List.length_append]; omega, ?_⟩, HKn.out, HS16.out⟩, by simp [intOf]; omega⟩
            have h9 := HE.out
            have h10 := Hkk.out
            rw [Hcv.out] at h9
            rw [show K - (j + 1) = kk by omega]
            exact h9

end Go.Proofs.YtdpocnkeokplpaaGreat
