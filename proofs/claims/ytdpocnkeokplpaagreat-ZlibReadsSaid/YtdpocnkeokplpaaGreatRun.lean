/- The document's inflate: what a Run holds; take, next, fail. -/
import Derived.Test.YtdpocnkeokplpaaGreatQg
import Derived.Test.YtdpocnkeokplpaaGreatQi
import Derived.Test.YtdpocnkeokplpaaGreatQh
namespace Go.Proofs.YtdpocnkeokplpaaGreat
open Go.RowKit Go.Hal
set_option linter.unusedVariables false
set_option linter.unusedSimpArgs false

/-- What a Run holds. -/
structure RunS where
  bits : List Bool
  out : List UInt8
  e : Nat
  done : Bool
  kinds : List Int

def runV (lim : Int) (r : RunS) (bv ov kv : Value) : Array Value := #[bv, .int .i64 0, ov, .int .i64 lim, .int .i64 (r.e : Nat), .bool r.done, kv]
def runL (p : Nat) (lim : Int) (r : RunS) (bv ov kv : Value) : List Res :=
  [blk p (.cells (runV lim r bv ov kv) 47 (0, 0)), sl 3 1 r.bits.length bv ((bitsI r.bits).map intV), sl 5 1 r.out.length ov (r.out.map byteV), sl 3 1 r.kinds.length kv (r.kinds.map intV)]
def run (p : Nat) (lim : Int) (r : RunS) : Res := ex fun x : Value × Value × Value => bag (runL p lim r x.1 x.2.1 x.2.2)
theorem run_open {w : World} {p : Nat} {lim : Int} {r : RunS} {Rs : List Res} (hS : Sat w (run p lim r :: Rs)) : ∃ bv ov kv, Sat w (runL p lim r bv ov kv ++ Rs) := by
  obtain ⟨⟨bv, ov, kv⟩, h⟩ := hS.ex_out
  exact ⟨bv, ov, kv, h.bag_out⟩
theorem run_shut {w : World} {p : Nat} {lim : Int} {r : RunS} {Rs : List Res} {bv ov kv : Value} (hS : Sat w (runL p lim r bv ov kv ++ Rs)) : Sat w (run p lim r :: Rs) :=
  Sat.ex_in (bv, ov, kv) hS.bag_in
theorem run_cells {w : World} {p : Nat} {lim : Int} {r : RunS} {Rs : List Res} {bv ov kv : Value} (hS : Sat w (runL p lim r bv ov kv ++ Rs)) :
    w.cell? ⟨p, 0, none⟩ = some bv ∧ w.cell? ⟨p, 2, none⟩ = some ov ∧ w.cell? ⟨p, 3, none⟩ = some (.int .i64 lim) ∧ w.cell? ⟨p, 4, none⟩ = some (.int .i64 (r.e : Nat)) ∧ w.cell? ⟨p, 5, none⟩ = some (.bool r.done) ∧ w.cell? ⟨p, 6, none⟩ = some kv := by
  have h : w.heap[p]? = some (.cells (runV lim r bv ov kv) 47 (0, 0)) := Sat.heap (Rs := _ :: _ :: _ :: Rs) hS
  exact ⟨by rw [cell_of_row w p 0 _ _ _ h]; rfl, by rw [cell_of_row w p 2 _ _ _ h]; rfl, by rw [cell_of_row w p 3 _ _ _ h]; rfl, by rw [cell_of_row w p 4 _ _ _ h]; rfl, by rw [cell_of_row w p 5 _ _ _ h]; rfl, by rw [cell_of_row w p 6 _ _ _ h]; rfl⟩
theorem run_froz {w : World} {p : Nat} {lim : Int} {r : RunS} {Rs : List Res} {bv ov kv : Value} (hS : Sat w (runL p lim r bv ov kv ++ Rs)) (i : Nat) : w.frozen? ⟨p, i, none⟩ = false := by
  have h : w.heap[p]? = some (.cells (runV lim r bv ov kv) 47 (0, 0)) := Sat.heap (Rs := _ :: _ :: _ :: Rs) hS
  exact frozen_of_row w p i _ _ h
theorem run_set {w : World} {p : Nat} {lim : Int} {r r' : RunS} {Rs : List Res} {bv ov kv bv' ov' kv' v : Value} (hS : Sat w (runL p lim r bv ov kv ++ Rs)) (i : Nat) (hi : (runV lim r bv ov kv).setIfInBounds i v = runV lim r' bv' ov' kv') :
    Sat (w.setCell ⟨p, i, none⟩ v) (blk p (.cells (runV lim r' bv' ov' kv') 47 (0, 0)) :: ((runL p lim r bv ov kv).tail ++ Rs)) := by
  have h := Sat.setCell (Rs := (runL p lim r bv ov kv).tail ++ Rs) (i := i) hS v
  rw [hi] at h
  exact h

/-- A slice from its element k on; up to it. -/
theorem SlAt.rest {F : Nat → Prop} {w : World} {e : TypeId} {ao : Option Addr} {n cap : Nat} {xs : List Value} (h : SlAt F w e 1 n (.slice ao n cap) xs) (k : Nat) (hk : k ≤ n) :
    SlAt F w e 1 (n - k) (.slice (if cap = k then ao else Option.map (fun x => x.add k) ao) (n - k) (cap - k)) (xs.drop k) := by
  obtain ⟨ao', cap', heq, k1, k2, k3, k4⟩ := h
  simp only [Value.slice.injEq, true_and] at heq
  obtain ⟨rfl, rfl⟩ := heq
  refine ⟨_, _, rfl, by omega, by omega, by rw [List.length_drop]; omega, fun h0 => ?_⟩
  obtain ⟨b', o', cur, rfl, r2, r3, r4, r5⟩ := k4 (by omega)
  refine ⟨b', o' + k, cur, ?_, r2, r3, by omega, fun j u hu => ?_⟩
  · rw [if_neg (by omega)]
    show some (Addr.add _ k) = _
    rw [Addr.add_lit]
  · rw [List.getElem?_drop] at hu
    have := r5 _ u hu
    rw [← Nat.add_assoc] at this
    exact this
theorem SlR.head {w : World} {e : TypeId} {ao : Option Addr} {n cap : Nat} {xs : List Value} (h : SlR w e 1 n (.slice ao n cap) xs) (k : Nat) (hk : k ≤ n) : SlR w e 1 k (.slice ao k cap) (xs.take k) := by
  obtain ⟨ao', cap', heq, k1, k2, k3, k4⟩ := h
  simp only [Value.slice.injEq, true_and] at heq
  obtain ⟨rfl, rfl⟩ := heq
  refine ⟨_, _, rfl, by omega, k2, by rw [List.length_take]; omega, fun h0 => ?_⟩
  obtain ⟨b', o', he, hb, hc⟩ := k4 (by omega)
  refine ⟨b', o', he, hb, fun j u hu => hc j u ?_⟩
  rw [List.getElem?_take] at hu
  split at hu
  · exact hu
  · cases hu

/-- take. -/
def RunS.takeV (r : RunS) (n : Nat) : Nat := if r.e ≠ 0 then 0 else if r.bits.length < n then 0 else num (r.bits.take n)
def RunS.takeS (r : RunS) (n : Nat) : RunS := if r.e ≠ 0 then r else if r.bits.length < n then { r with e := 2 } else { r with bits := r.bits.drop n }

theorem takeV_e {r : RunS} (n : Nat) (h : r.e ≠ 0) : r.takeV n = 0 := if_pos h
theorem takeS_e {r : RunS} (n : Nat) (h : r.e ≠ 0) : r.takeS n = r := if_pos h
theorem takeV_s {r : RunS} {n : Nat} (h : r.e = 0) (hl : r.bits.length < n) : r.takeV n = 0 := by unfold RunS.takeV; rw [if_neg (by omega), if_pos hl]
theorem takeS_s {r : RunS} {n : Nat} (h : r.e = 0) (hl : r.bits.length < n) : r.takeS n = { r with e := 2 } := by unfold RunS.takeS; rw [if_neg (by omega), if_pos hl]
theorem takeV_k {r : RunS} {n : Nat} (h : r.e = 0) (hl : n ≤ r.bits.length) : r.takeV n = num (r.bits.take n) := by unfold RunS.takeV; rw [if_neg (by omega), if_neg (by omega)]
theorem takeS_k {r : RunS} {n : Nat} (h : r.e = 0) (hl : n ≤ r.bits.length) : r.takeS n = { r with bits := r.bits.drop n } := by unfold RunS.takeS; rw [if_neg (by omega), if_neg (by omega)]

set_option maxHeartbeats 1000000 in
theorem take_any {w : World} {p : Nat} {lim : Int} {r : RunS} {Rs : List Res} (hS : Sat w (run p lim r :: Rs)) (n : Nat) (hn : n ≤ 60) :
    Calls Tryz.prog 45 #[.pointer (some ⟨p, 0, none⟩), .int .i64 n] w fun e' w' => e' = .returned (.int .i64 (r.takeV n : Nat)) ∧ Sat w' (run p lim (r.takeS n) :: Rs) := by
  obtain ⟨bits, out, e, done, kinds⟩ := r
  by_cases he : e = 0
  · subst he
    obtain ⟨bv, ov, kv, hS1⟩ := run_open hS
    obtain ⟨F, bo, bap, rfl, hle, hcm, -, -⟩ := hS1.at_ 1 _ rfl
    obtain ⟨c0, -, -, c4, -, -⟩ := run_cells hS1
    have f0 := run_froz hS1 0
    have f4 := run_froz hS1 4
    unfold maxLen at hcm
    have hle2 : bits.length ≤ bap := hle
    replace c4 : w.cell? ⟨p, 4, none⟩ = some (.int .i64 0) := c4
    replace c0 : w.cell? ⟨p, 0, none⟩ = some (.slice bo bits.length bap) := c0
    by_cases hl : bits.length < n
    · rw [takeV_s (r := ⟨bits, out, 0, done, kinds⟩) rfl hl, takeS_s (r := ⟨bits, out, 0, done, kinds⟩) rfl hl]
      have hd : decide (bits.length < n) = true := decide_eq_true hl
      have H1 := Lib.hid (run_shut (Rs := Rs) (run_set (r' := ⟨bits, out, 2, done, kinds⟩) (v := .int .i64 2) hS1 4 rfl))
      clear hS hS1 hle
      go_enter Tryz.func45, Tryz.ntmps45
      go_wp2
      go_ret
      exact ⟨rfl, H1.out⟩
    · have hnl : n ≤ bits.length := by omega
      rw [takeV_k (r := ⟨bits, out, 0, done, kinds⟩) rfl hnl, takeS_k (r := ⟨bits, out, 0, done, kinds⟩) rfl hnl]
      have hd : decide (bits.length < n) = false := decide_eq_false hl
      have hncap : n ≤ bap := by omega
      have hint : IntsR w (.slice bo n bap) (bitsI (bits.take n)) := by
        have h1 := SlR.head (Sat.front hS1 1 _ rfl).sl_read n hnl
        unfold IntsR
        rw [show (bitsI (bits.take n)).length = n by simp [bitsI]; omega]
        rw [show (bitsI (bits.take n)).map intV = ((bitsI bits).map intV).take n by simp [bitsI, List.map_take]]
        exact h1
      have Hnum := Lib.hid (number_any _ (bits.take n) w (by rw [List.length_take]; omega) hint)
      have H3 : Hid (∀ v, v = .slice (if bap = n then bo else Option.map (fun x => x.add n) bo) (bits.length - n) (bap - n) → Sat (w.setCell ⟨p, 0, none⟩ v) (run p lim ⟨bits.drop n, out, 0, done, kinds⟩ :: Rs)) := by
        rintro v rfl
        have H2 := run_set (r' := ⟨bits.drop n, out, 0, done, kinds⟩) (bv' := .slice (if bap = n then bo else Option.map (fun x => x.add n) bo) (bits.length - n) (bap - n)) (ov' := ov) (kv' := kv) (v := .slice (if bap = n then bo else Option.map (fun x => x.add n) bo) (bits.length - n) (bap - n)) hS1 0 rfl
        exact run_shut (r := ⟨bits.drop n, out, 0, done, kinds⟩) (Rs := Rs) (Sat.swap (Sat.conv (Sat.swap H2) fun F h => by
          have h1 := SlAt.rest h n hnl
          rw [show ((bitsI bits).map intV).drop n = (bitsI (bits.drop n)).map intV by simp [bitsI, List.map_drop]] at h1
          have e1 : (bits.drop n).length = bits.length - n := List.length_drop
          show SlAt F _ _ 1 (bits.drop n).length _ _
          rw [e1]
          exact h1))
      clear hS hS1 hint hle
      go_enter Tryz.func45, Tryz.ntmps45
      go_wp2_with (go_at_call 50; refine Hnum.out.mono ?_; rintro e w2 ⟨rfl, rfl⟩)
      all_goals
        go_ret
        exact ⟨rfl, H3.out _ (by simp [*])⟩
  · rw [takeV_e n (show RunS.e ⟨bits, out, e, done, kinds⟩ ≠ 0 from he), takeS_e n (show RunS.e ⟨bits, out, e, done, kinds⟩ ≠ 0 from he)]
    obtain ⟨bv, ov, kv, hS1⟩ := run_open hS
    obtain ⟨-, -, -, c4, -, -⟩ := run_cells hS1
    replace c4 : w.cell? ⟨p, 4, none⟩ = some (.int .i64 e) := c4
    have heI : ((e : Int) != 0) = true := bne_iff_ne.2 (by omega)
    have H1 := Lib.hid hS
    clear hS hS1
    go_enter Tryz.func45, Tryz.ntmps45
    go_wp2
    go_ret
    exact ⟨rfl, H1.out⟩

/-- fail. -/
def RunS.failS (r : RunS) (yes : Bool) (k : Nat) : RunS := if r.e = 0 ∧ yes = true then { r with e := k } else r
set_option maxHeartbeats 1000000 in
theorem fail_any {w : World} {p : Nat} {lim : Int} {r : RunS} {Rs : List Res} (hS : Sat w (run p lim r :: Rs)) (yes : Bool) (k : Nat) :
    Calls Tryz.prog 78 #[.pointer (some ⟨p, 0, none⟩), .bool yes, .int .i64 k] w fun e' w' => e' = .returned (.tuple #[]) ∧ Sat w' (run p lim (r.failS yes k) :: Rs) := by
  obtain ⟨bv, ov, kv, hS1⟩ := run_open hS
  obtain ⟨-, -, -, c4, -, -⟩ := run_cells hS1
  have f4 := run_froz hS1 4
  have H0 := Lib.hid hS
  have H1 := Lib.hid (run_shut (Rs := Rs) (run_set (r' := { r with e := k }) (v := .int .i64 k) hS1 4 rfl))
  clear hS hS1
  unfold RunS.failS
  by_cases he : r.e = 0
  · have heI : ((r.e : Int) == 0) = true := by rw [he]; rfl
    have He := Lib.hid he
    cases yes
    · rw [if_neg (by simp)]
      clear he
      go_enter Tryz.func78, Tryz.ntmps78
      go_wp2
      go_end0
      exact ⟨rfl, H0.out⟩
    · rw [if_pos ⟨he, rfl⟩]
      clear he
      go_enter Tryz.func78, Tryz.ntmps78
      go_wp2
      go_end0
      exact ⟨rfl, H1.out⟩
  · have heI : ((r.e : Int) == 0) = false := beq_eq_false_iff_ne.2 (by omega)
    rw [if_neg (by simp [he])]
    go_enter Tryz.func78, Tryz.ntmps78
    go_wp2
    go_end0
    exact ⟨rfl, H0.out⟩

/-- next. -/
def RunS.nextV (r : RunS) (L : List Nat) : Nat := if r.e ≠ 0 then 0 else (decL L r.bits).1
def RunS.nextS (r : RunS) (L : List Nat) : RunS := if r.e ≠ 0 then r else { r with e := (decL L r.bits).2.1, bits := r.bits.drop (decL L r.bits).2.2 }
theorem nextV_e {r : RunS} (L : List Nat) (h : r.e ≠ 0) : r.nextV L = 0 := if_pos h
theorem nextS_e {r : RunS} (L : List Nat) (h : r.e ≠ 0) : r.nextS L = r := if_pos h
theorem nextV_k {r : RunS} {L : List Nat} (h : r.e = 0) : r.nextV L = (decL L r.bits).1 := if_neg (by omega)
theorem nextS_k {r : RunS} {L : List Nat} (h : r.e = 0) : r.nextS L = { r with e := (decL L r.bits).2.1, bits := r.bits.drop (decL L r.bits).2.2 } := if_neg (by omega)
set_option maxHeartbeats 1000000 in
theorem next_run {w : World} {p : Nat} {lim : Int} {r : RunS} {Rs : List Res} {ww : Value} {L : List Nat} {T : List (Nat × Value)} {P : List Ent} (hS : Sat w (run p lim r :: sl 156 2 T.length ww (wordC T) :: pool P :: Rs)) (hT : T.map (·.1) = ord L 15) (hTP : ∀ x ∈ T, entW L x ∈ P) (hn : T.length ≤ 288) :
    Calls Tryz.prog 81 #[.pointer (some ⟨p, 0, none⟩), ww] w fun e' w' => e' = .returned (.int .i64 (r.nextV L : Nat)) ∧ Sat w' (run p lim (r.nextS L) :: sl 156 2 T.length ww (wordC T) :: pool P :: Rs) := by
  obtain ⟨bits, out, e, done, kinds⟩ := r
  obtain ⟨_, oo, oap, rfl, -, -, -, -⟩ := hS.at_ 1 _ rfl
  by_cases he : e = 0
  · subst he
    obtain ⟨bv, ov, kv, hS1⟩ := run_open hS
    obtain ⟨F, bo, bap, rfl, hle, hcm, -, -⟩ := hS1.at_ 1 _ rfl
    obtain ⟨c0, -, -, c4, -, -⟩ := run_cells hS1
    have f4 := run_froz hS1 4
    unfold maxLen at hcm
    have hle2 : bits.length ≤ bap := hle
    replace c4 : w.cell? ⟨p, 4, none⟩ = some (.int .i64 0) := c4
    replace c0 : w.cell? ⟨p, 0, none⟩ = some (.slice bo bits.length bap) := c0
    rw [nextV_k (r := ⟨bits, out, 0, done, kinds⟩) rfl, nextS_k (r := ⟨bits, out, 0, done, kinds⟩) rfl]
    obtain ⟨⟨s, e, n⟩, hD⟩ : ∃ D, decL L bits = D := ⟨_, rfl⟩
    obtain ⟨hnl, -, -⟩ := decL_good hD
    have hA := Sat.perm (As := [_, _, _, _, _, _]) hS1 [4, 5, 0, 1, 2, 3] [_, _, _, _, _, _] rfl (by simp)
    have Hn := refNext_any (Rs := _ :: _ :: _ :: _ :: Rs) hA hT hTP hn _ bits (fun w' h => by unfold IntsR; rw [show (bitsI bits).length = bits.length by simp [bitsI]]; exact (Sat.front h 1 _ rfl).sl_read)
    rw [hD] at Hn
    simp only [hD]
    have HN := Lib.hid Hn
    have hncap : n ≤ bap := by omega
    clear hS hS1 hle Hn hA hD hT hTP
    go_enter Tryz.func81, Tryz.ntmps81
    go_wp2_with (go_at_call 102; refine HN.out.mono ?_; rintro e' w2 ⟨rfl, hS2⟩; have hB := Sat.perm (As := [_, _, _, _, _, _]) hS2 [2, 3, 4, 5, 0, 1] [_, _, _, _, _, _] rfl (by simp); obtain ⟨d0, -, -, d4, -, -⟩ := run_cells (r := ⟨bits, out, 0, done, kinds⟩) (Rs := _ :: _ :: Rs) hB; have g0 := run_froz (r := ⟨bits, out, 0, done, kinds⟩) (Rs := _ :: _ :: Rs) hB 0; have g4 := run_froz (r := ⟨bits, out, 0, done, kinds⟩) (Rs := _ :: _ :: Rs) hB 4; replace d4 : w2.cell? ⟨p, 4, none⟩ = some (.int .i64 0) := d4; have HB := Lib.hid hB; clear hS2 hB HN c0 c4 f4)
    all_goals
      go_ret
      refine ⟨rfl, ?_⟩
      have h4 := run_set (r := ⟨bits, out, 0, done, kinds⟩) (r' := ⟨bits, out, e, done, kinds⟩) (v := .int .i64 e) HB.out 4 rfl
      have h5 := run_set (r := ⟨bits, out, e, done, kinds⟩) (r' := ⟨bits.drop n, out, e, done, kinds⟩) (bv' := .slice (if bap = n then bo else Option.map (fun x => x.add n) bo) (bits.length - n) (bap - n)) (ov' := ov) (kv' := kv) (v := .slice (if bap = n then bo else Option.map (fun x => x.add n) bo) (bits.length - n) (bap - n)) h4 0 rfl
      have h6 := run_shut (r := ⟨bits.drop n, out, e, done, kinds⟩) (Rs := _ :: _ :: Rs) (Sat.swap (Sat.conv (Sat.swap h5) fun F h => by
          have h1 := SlAt.rest h n hnl
          rw [show ((bitsI bits).map intV).drop n = (bitsI (bits.drop n)).map intV by simp [bitsI, List.map_drop]] at h1
          have e1 : (bits.drop n).length = bits.length - n := List.length_drop
          show SlAt F _ _ 1 (bits.drop n).length _ _
          rw [e1]
          exact h1))
      first
        | (rw [if_pos (by assumption)] at h6; simpa [*] using h6)
        | (rw [if_neg (by assumption)] at h6; exact h6)
  · rw [nextV_e L (show RunS.e ⟨bits, out, e, done, kinds⟩ ≠ 0 from he), nextS_e L (show RunS.e ⟨bits, out, e, done, kinds⟩ ≠ 0 from he)]
    obtain ⟨bv, ov, kv, hS1⟩ := run_open hS
    obtain ⟨-, -, -, c4, -, -⟩ := run_cells hS1
    replace c4 : w.cell? ⟨p, 4, none⟩ = some (.int .i64 e) := c4
    have heI : ((e : Int) != 0) = true := bne_iff_ne.2 (by omega)
    have H1 := Lib.hid hS
    clear hS hS1
    go_enter Tryz.func81, Tryz.ntmps81
    go_wp2
    go_ret
    exact ⟨rfl, H1.out⟩

/-- tell. -/
def RunS.tellS (r : RunS) (lim : Int) (c : UInt8) : RunS := if r.e ≠ 0 then r else if lim ≤ (r.out.length : Int) then { r with e := 9 } else { r with out := r.out ++ [c] }

end Go.Proofs.YtdpocnkeokplpaaGreat
