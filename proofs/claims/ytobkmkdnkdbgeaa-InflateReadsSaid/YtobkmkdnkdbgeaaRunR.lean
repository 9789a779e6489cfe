/- The document's inflate: Rest; clear. -/
import Derived.Test.YtobkmkdnkdbgeaaRunZ
import Derived.Test.YtobkmkdnkdbgeaaRunB
namespace Go.Proofs.Ytobkmkdnkdbgeaa
open Go.RowKit Go.Hal
set_option linter.unusedVariables false
set_option linter.unusedSimpArgs false

set_option maxHeartbeats 1000000 in
theorem rest_no {w : World} {p : Nat} {lim : Int} {b : List Bool} {o : List UInt8} {e : Nat} {ks : List Int} {Rs : List Res} (hS : Sat w (run p lim ⟨b, o, e, false, ks⟩ :: Rs)) :
    Calls Try.prog 41 #[.pointer (some ⟨p, 0, none⟩)] w fun e' w' => e' = .returned (.slice none 0 0) ∧ w' = w := by
  obtain ⟨-, q5, -, -⟩ := run_done hS
  clear hS
  go_enter Try.func41, Try.ntmps41
  go_wp2
  go_ret
  exact ⟨rfl, rfl⟩
set_option maxRecDepth 100000 in
set_option maxHeartbeats 1000000 in
theorem rest_yes {w : World} {p : Nat} {lim : Int} {b : List Bool} {o : List UInt8} {e : Nat} {ks : List Int} {Rs : List Res} (hS : Sat w (run p lim ⟨b, o, e, true, ks⟩ :: Rs)) (rs : List UInt8) (hrs : bitsOf rs = b.drop (b.length % 8)) (hb : rs.length ≤ 4194304) :
    Calls Try.prog 41 #[.pointer (some ⟨p, 0, none⟩)] w fun e' w' => ∃ ov, e' = .returned ov ∧ Sat w' (sl 5 1 rs.length ov (rs.map byteV) :: run p lim ⟨b, o, e, true, ks⟩ :: Rs) := by
  obtain ⟨-, q5, -, -⟩ := run_done hS
  obtain ⟨bv, ov, kv, hS1⟩ := run_open hS
  obtain ⟨_, bo, bap, rfl, hle, hcm, -, -⟩ := hS1.at_ 1 _ rfl
  have q0 : w.cell? ⟨p, 0, none⟩ = some (.slice bo b.length bap) := (run_cells hS1).1
  have hle2 : b.length ≤ bap := hle
  unfold maxLen at hcm
  obtain ⟨m, Hm⟩ : ∃ m, Hid (m = b.length % 8) := ⟨_, Lib.hid rfl⟩
  have hmI : (b.length : Int) % 8 = (m : Int) := by rw [Hm.out]; omega
  have hml : m ≤ b.length := by rw [Hm.out]; omega
  have hmc : m ≤ bap := by omega
  have Hb : Hid (∀ v, v = .slice (if bap = m then bo else Option.map (fun x => x.add m) bo) (b.length - m) (bap - m) → Calls Try.prog 74 #[v] w.drew fun e' w' => ∃ ov, e' = .returned ov ∧ Sat w' (sl 5 1 rs.length ov (rs.map byteV) :: run p lim ⟨b, o, e, true, ks⟩ :: Rs)) := by
    rintro v rfl
    have h9 : ∀ w', Sat w' (runL p lim ⟨b, o, e, true, ks⟩ (.slice bo b.length bap) ov kv ++ Rs) → IntsR w' (.slice (if bap = m then bo else Option.map (fun x => x.add m) bo) (b.length - m) (bap - m)) (bitsI (bitsOf rs)) := by
      intro w' h'
      have h1 := SlR.rest (Sat.front h' 1 _ rfl).sl_read m hml
      rw [hrs, ← Hm.out]
      unfold IntsR
      rw [show (bitsI (b.drop m)).length = b.length - m by simp [bitsI]]
      rw [show (bitsI (b.drop m)).map intV = ((bitsI b).map intV).drop m by simp [bitsI, List.map_drop]]
      exact h1
    refine (bytes_ref hS1.drew _ rs h9 hb).mono ?_
    rintro e' w' ⟨ov2, rfl, h3⟩
    exact ⟨ov2, rfl, Sat.swap (run_shut (Rs := _ :: Rs) (Sat.perm (As := [_, _, _, _, _]) h3 [1, 2, 3, 4, 0] [_, _, _, _, _] rfl (by simp)))⟩
  have hw1 : IntKind.i64.wrap (m : Int) = (m : Int) := i64_id _ (by have := Hm.out; omega) (by have := Hm.out; omega)
  have hm0 : (0 : Int) ≤ (m : Int) := by omega
  have hmlI : (m : Int) ≤ (b.length : Int) := by omega
  have htm : Int.tmod (b.length : Int) 8 = (m : Int) := by rw [Int.tmod_eq_emod_of_nonneg (by omega)]; exact hmI
  clear hS hS1 hle hrs hb hcm hle2
  go_enter Try.func41, Try.ntmps41
  go_wp2
  by_cases hbm : bap = m
  · have Hb2 := Hb.out (.slice bo (b.length - m) 0) (by rw [if_pos hbm, hbm, Nat.sub_self])
    have Hb3 := Lib.hid Hb2
    subst hbm
    clear Hb2 Hb
    go_region_with (go_at_call 74; refine Hb3.out.mono ?_; rintro e' w2 ⟨ov2, rfl, hS2⟩; obtain ⟨_, r1, r2, rfl, -, -, -, -⟩ := hS2.at_ 0 _ rfl; have HS2 := Lib.hid hS2; clear hS2)
    all_goals
      go_wp2
      go_ret
      exact ⟨_, rfl, HS2.out⟩
  · have Hb2 := Hb.out (.slice (Option.map (fun x => x.add m) bo) (b.length - m) (bap - m)) (by rw [if_neg hbm])
    have Hb3 := Lib.hid Hb2
    clear Hb2 Hb
    go_region_with (go_at_call 74; refine Hb3.out.mono ?_; rintro e' w2 ⟨ov2, rfl, hS2⟩; obtain ⟨_, r1, r2, rfl, -, -, -, -⟩ := hS2.at_ 0 _ rfl; have HS2 := Lib.hid hS2; clear hS2)
    all_goals
      go_wp2
      go_ret
      exact ⟨_, rfl, HS2.out⟩
def clearE (e : Nat) : Nat := if e = 2 then 0 else e
set_option maxHeartbeats 400000 in
theorem clear_any (w : World) (e : Nat) : Calls Try.prog 39 #[.int .i64 (e : Nat)] w fun e' w' => e' = .returned (.int .i64 (clearE e : Nat)) ∧ w' = w := by
  unfold clearE
  by_cases h : e = 2
  · subst h
    rw [if_pos rfl]
    go_enter Try.func39, Try.ntmps39
    go_wp2
    go_ret
    exact ⟨rfl, rfl⟩
  · rw [if_neg h]
    have hI : ((e : Int) == 2) = false := beq_eq_false_iff_ne.2 (by omega)
    go_enter Try.func39, Try.ntmps39
    go_wp2
    go_ret
    exact ⟨rfl, rfl⟩

end Go.Proofs.Ytobkmkdnkdbgeaa
