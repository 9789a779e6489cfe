/- inflate.Decoder: told, more. inflate.Decoder: told, lens: a word. inflate.Decoder: told, lens: a word that says the last one again. -/
import Derived.Test.YtdpocnkeokplpaaQi
import Derived.Test.YtdpocnkeokplpaaQj
import Derived.Deep.RegionWith
namespace Go.Proofs.Ytdpocnkeokplpaa
open Go.RowKit Go.Hal
set_option linter.unusedVariables false
set_option linter.unusedSimpArgs false

/-- What lay comes to. -/
def LayQ (d total e : Nat) (limit : Int) (s : DS) (c : DC) (v n : Nat) (Rs : List Res) (w' : World) : Prop :=
  (s.lits + s.dists < s.row.length + n ∧ Sat w' (decR d (headV s c) c.win (footV total limit c.ov c.rv 5) :: Rs)) ∨
  (¬ s.lits + s.dists < s.row.length + n ∧ ∃ rv', Sat w' (decR d (headV { s with row := s.row ++ List.replicate n v, st := 5 } { c with rowv := rv' }) c.win (footV total limit c.ov c.rv e) ::
      sl 3 1 (s.row ++ List.replicate n v).length rv' ((natsV (s.row ++ List.replicate n v)).map intV) :: Rs))
theorem lay_d {w : World} {d total e : Nat} {limit : Int} {s : DS} {c : DC} {Rs : List Res} (hS : Sat w (decR d (headV s c) c.win (footV total limit c.ov c.rv e) :: sl 3 1 s.row.length c.rowv ((natsV s.row).map intV) :: Rs)) (v : Nat) (n : Nat)
    (hn : n ≤ 100000) (hl : s.lits ≤ 286) (hl2 : s.dists ≤ 30) (hr : s.row.length ≤ 316) :
    Calls Try.prog 88 #[.pointer (some ⟨d, 0, none⟩), .int .i64 v, .int .i64 n] w fun e' w' => e' = .returned (.tuple #[]) ∧ LayQ d total e limit s c v n Rs w' := by
  by_cases h : s.lits + s.dists < s.row.length + n
  · exact (lay_no hS v n h hn hl hl2 hr).mono fun e w' h2 => ⟨h2.1, .inl ⟨h, h2.2⟩⟩
  · exact (lay_yes hS v n h hl hl2).mono fun e w' h2 => ⟨h2.1, .inr ⟨h, h2.2⟩⟩

set_option maxRecDepth 100000 in
set_option maxHeartbeats 2000000 in
theorem more_stop {w : World} {d total e : Nat} {limit : Int} {s : DS} {c : DC} {l : List Bool} {Rs : List Res} (hS : Sat w (decR d (headV s c) c.win (footV total limit c.ov c.rv e) :: rd c.r l :: Rs)) (hst : s.st = 6) (hx : s.extra ≤ 13)
    (h : l.length < s.extra) :
    Calls Try.prog 54 #[.pointer (some ⟨d, 0, none⟩)] w fun e' w' => e' = .returned (.bool false) ∧
      Sat w' (decR d (headV s c) c.win (footV total limit c.ov c.rv e) :: rd c.r l :: Rs) := by
  have q0 : w.cell? ⟨d, 0, none⟩ = some (.pointer (some ⟨c.r, 0, none⟩)) := (dec_h hS 0 _ rfl).1
  have q1 : w.cell? ⟨d, 1, none⟩ = some (.int .i64 6) := by have := (dec_h hS 1 _ rfl).1; rw [hst] at this; exact this
  have q5 : w.cell? ⟨d, 5, none⟩ = some (.int .i64 s.extra) := (dec_h hS 5 _ rfl).1
  have Ht := Lib.hid (take_rd_short hS.drew.swap s.extra (by omega) h)
  have HS := Lib.hid (fun k => hS.drewN k)
  clear hS h hst
  go_enter Try.func54, Try.ntmps54
  go_wp2_with fail
  go_region_with (go_at_call 48; refine Ht.out.mono ?_; rintro e' w2 ⟨rfl, k2, rfl⟩)
  all_goals
    go_wp2
    go_ret
    exact ⟨rfl, HS.out _⟩

set_option maxRecDepth 100000 in
set_option maxHeartbeats 2000000 in
theorem more_go {w : World} {d total e : Nat} {limit : Int} {s : DS} {c : DC} {l : List Bool} {Rs : List Res} (hS : Sat w (decR d (headV s c) c.win (footV total limit c.ov c.rv e) :: rd c.r l :: sl 3 1 s.row.length c.rowv ((natsV s.row).map intV) :: Rs)) (hst : s.st = 6) (hx : s.extra ≤ 13)
    (hb : s.base ≤ 24577) (hl : s.lits ≤ 286) (hl2 : s.dists ≤ 30) (hr : s.row.length ≤ 316) (h : s.extra ≤ l.length) :
    Calls Try.prog 54 #[.pointer (some ⟨d, 0, none⟩)] w fun e' w' => e' = .returned (.bool true) ∧
      LayQ d total e limit s c s.left (s.base + num (l.take s.extra)) (rd c.r (l.drop s.extra) :: Rs) w' := by
  have q0 : w.cell? ⟨d, 0, none⟩ = some (.pointer (some ⟨c.r, 0, none⟩)) := (dec_h hS 0 _ rfl).1
  have q1 : w.cell? ⟨d, 1, none⟩ = some (.int .i64 6) := by have := (dec_h hS 1 _ rfl).1; rw [hst] at this; exact this
  have q5 : w.cell? ⟨d, 5, none⟩ = some (.int .i64 s.extra) := (dec_h hS 5 _ rfl).1
  have ht := take_rd hS.drew.swap s.extra (by omega) h
  have hn := num_take_lt l s.extra 13 hx
  generalize num (l.take s.extra) = n at *
  have Ht := Lib.hid ht
  have Hg : Hid (s.base + n ≤ 100000 ∧ s.lits ≤ 286 ∧ s.dists ≤ 30 ∧ s.row.length ≤ 316) := ⟨by omega, hl, hl2, hr⟩
  obtain ⟨m, Hm⟩ : ∃ m, Hid (s.base + n = m) := ⟨_, Lib.hid rfl⟩
  rw [Hm.out] at Hg ⊢
  have hsum : (s.base : Int) + (n : Int) = (m : Int) := by have := Hm.out; omega
  have hw1 : IntKind.i64.wrap (m : Int) = (m : Int) := i64_id _ (by have := Hg.out; omega) (by have := Hg.out; omega)
  clear ht hS h hst hl hl2 hr
  go_enter Try.func54, Try.ntmps54
  go_wp2_with fail
  go_region_with (go_at_call 48; refine Ht.out.mono ?_; rintro e' w2 ⟨rfl, hS2⟩)
  all_goals
    have q3 : w2.cell? ⟨d, 3, none⟩ = some (.int .i64 s.left) := (dec_h hS2.swap 3 _ rfl).1
    have q6 : w2.cell? ⟨d, 6, none⟩ = some (.int .i64 s.base) := (dec_h hS2.swap 6 _ rfl).1
    have Hl := Lib.hid (lay_d (Sat.perm (As := [_, _, _]) hS2.drew [1, 2, 0] [_, _, _] rfl (by simp)) s.left m Hg.out.1 Hg.out.2.1 Hg.out.2.2.1 Hg.out.2.2.2)
    clear hS2
    go_wp2_with fail
    go_region_with (go_at_call 88; refine Hl.out.mono ?_; rintro e' w3 ⟨rfl, hS3⟩)
    all_goals
      go_wp2
      go_ret
      exact ⟨rfl, hS3⟩

end Go.Proofs.Ytdpocnkeokplpaa

namespace Go.Proofs.Ytdpocnkeokplpaa
open Go.RowKit Go.Hal
set_option linter.unusedVariables false
set_option linter.unusedSimpArgs false

set_option maxRecDepth 100000 in
set_option maxHeartbeats 2000000 in
theorem lens_no {w : World} {d total : Nat} {limit : Int} {s : DS} {c : DC} {l : List Bool} {Rs : List Res}
    (hS : Sat w (decR d (headV s c) c.win (footV total limit c.ov c.rv 0) :: rd c.r l :: oc c.fv s.first :: sl 3 1 s.row.length c.rowv ((natsV s.row).map intV) :: Rs)) (hst : s.st = 5)
    (hf : s.row.length ≠ s.lits + s.dists) (hl : s.lits ≤ 286) (hl2 : s.dists ≤ 30) (hr : s.row.length ≤ 316) (h : (decO s.first l).2.1 ≠ 0) :
    Calls Try.prog 54 #[.pointer (some ⟨d, 0, none⟩)] w fun e' w' => e' = .returned (.bool false) ∧
      Sat w' (decR d (headV s c) c.win (footV total limit c.ov c.rv (errW 0 (decO s.first l).2.1)) :: rd c.r (l.drop (decO s.first l).2.2) :: oc c.fv s.first :: sl 3 1 s.row.length c.rowv ((natsV s.row).map intV) :: Rs) := by
  obtain ⟨F, ao, cap, hv, -, -, -, -⟩ := hS.at_ 3 _ rfl
  have q1 : w.cell? ⟨d, 1, none⟩ = some (.int .i64 5) := by have := (dec_h hS 1 _ rfl).1; rw [hst] at this; exact this
  have q7 : w.cell? ⟨d, 7, none⟩ = some (.int .i64 s.lits) := (dec_h hS 7 _ rfl).1
  have q8 : w.cell? ⟨d, 8, none⟩ = some (.int .i64 s.dists) := (dec_h hS 8 _ rfl).1
  have q9 : w.cell? ⟨d, 9, none⟩ = some (.slice ao s.row.length cap) := by have := (dec_h hS 9 _ rfl).1; rw [hv] at this; exact this
  have q10 : w.cell? ⟨d, 10, none⟩ = some c.fv := (dec_h hS 10 _ rfl).1
  obtain ⟨m, Hm⟩ : ∃ m, Hid (s.lits + s.dists = m) := ⟨_, Lib.hid rfl⟩
  have hsum : (s.lits : Int) + (s.dists : Int) = (m : Int) := by have := Hm.out; omega
  have hne : ((s.row.length : Int) == (m : Int)) = false := beq_eq_false_iff_ne.2 (by have := Hm.out; omega)
  have hne2 : ¬ s.row.length = m := by have := Hm.out; omega
  have Hw := Lib.hid (word_d (Sat.perm (As := [_, _, _, _]) hS.drew [0, 1, 2, 3] [_, _, _, _] rfl (by simp)) rfl)
  have hb : ((decO s.first l).2.1 == 0) = false := beq_eq_false_iff_ne.2 h
  rw [hb] at Hw
  have hvp : ∃ a, c.fv = .pointer a := by
    rcases oc_out (Sat.front hS 2 _ rfl) with ⟨-, h, -⟩ | ⟨_, _, -, h, -, -, -⟩
    · exact ⟨_, h⟩
    · exact ⟨_, h⟩
  obtain ⟨av, hav⟩ := hvp
  rw [hav] at Hw q10
  clear hS h hst hb hf hr
  go_enter Try.func54, Try.ntmps54
  go_wp2
  go_region
  go_wp2_with (go_at_call 55; refine Hw.out.mono ?_; rintro e' w2 ⟨rfl, hS2⟩)
  go_ret
  rw [hav]
  exact ⟨rfl, hS2⟩

set_option maxRecDepth 100000 in
set_option maxHeartbeats 2000000 in
theorem lens_lay {w : World} {d total : Nat} {limit : Int} {s : DS} {c : DC} {l : List Bool} {Rs : List Res}
    (hS : Sat w (decR d (headV s c) c.win (footV total limit c.ov c.rv 0) :: rd c.r l :: oc c.fv s.first :: sl 3 1 s.row.length c.rowv ((natsV s.row).map intV) :: Rs)) (hst : s.st = 5)
    (hf : s.row.length ≠ s.lits + s.dists) (hl : s.lits ≤ 286) (hl2 : s.dists ≤ 30) (hr : s.row.length ≤ 316) (h : (decO s.first l).2.1 = 0) (h16 : (decO s.first l).1 < 16) :
    Calls Try.prog 54 #[.pointer (some ⟨d, 0, none⟩)] w fun e' w' => e' = .returned (.bool true) ∧
      LayQ d total 0 limit s c (decO s.first l).1 1 (rd c.r (l.drop (decO s.first l).2.2) :: oc c.fv s.first :: Rs) w' := by
  obtain ⟨F, ao, cap, hv, -, -, -, -⟩ := hS.at_ 3 _ rfl
  have q1 : w.cell? ⟨d, 1, none⟩ = some (.int .i64 5) := by have := (dec_h hS 1 _ rfl).1; rw [hst] at this; exact this
  have q7 : w.cell? ⟨d, 7, none⟩ = some (.int .i64 s.lits) := (dec_h hS 7 _ rfl).1
  have q8 : w.cell? ⟨d, 8, none⟩ = some (.int .i64 s.dists) := (dec_h hS 8 _ rfl).1
  have q9 : w.cell? ⟨d, 9, none⟩ = some (.slice ao s.row.length cap) := by have := (dec_h hS 9 _ rfl).1; rw [hv] at this; exact this
  have q10 : w.cell? ⟨d, 10, none⟩ = some c.fv := (dec_h hS 10 _ rfl).1
  obtain ⟨m, Hm⟩ : ∃ m, Hid (s.lits + s.dists = m) := ⟨_, Lib.hid rfl⟩
  have hsum : (s.lits : Int) + (s.dists : Int) = (m : Int) := by have := Hm.out; omega
  have hne : ((s.row.length : Int) == (m : Int)) = false := beq_eq_false_iff_ne.2 (by have := Hm.out; omega)
  have hne2 : ¬ s.row.length = m := by have := Hm.out; omega
  have Hw := Lib.hid (word_d (Sat.perm (As := [_, _, _, _]) hS.drew [0, 1, 2, 3] [_, _, _, _] rfl (by simp)) rfl)
  have hb : ((decO s.first l).2.1 == 0) = true := beq_iff_eq.2 h
  rw [hb, h, show errW 0 0 = 0 from rfl] at Hw
  have hvp : ∃ a, c.fv = .pointer a := by
    rcases oc_out (Sat.front hS 2 _ rfl) with ⟨-, h, -⟩ | ⟨_, _, -, h, -, -, -⟩
    · exact ⟨_, h⟩
    · exact ⟨_, h⟩
  obtain ⟨av, hav⟩ := hvp
  rw [hav] at Hw q10
  have Hst := Lib.hid hst
  have Hl : Hid (s.lits ≤ 286 ∧ s.dists ≤ 30 ∧ s.row.length ≤ 316) := ⟨hl, hl2, hr⟩
  clear hS h hst hb hf hr
  rw [hav]
  generalize (decO s.first l).1 = x at *
  generalize (decO s.first l).2.2 = n at *
  have hx16 : (x : Int) < 16 := by omega
  go_enter Try.func54, Try.ntmps54
  go_wp2
  go_region
  go_wp2_with (first | (go_at_call 55; refine Hw.out.mono ?_; rintro e' w2 ⟨rfl, hS2⟩) | (go_at_call 88; refine (lay_d (Sat.perm (As := [_, _, _, _]) hS2 [0, 3, 1, 2] [_, _, _, _] rfl (by simp)) x 1 ?_ Hl.out.1 Hl.out.2.1 Hl.out.2.2).mono ?_; omega; rintro e' w3 ⟨rfl, hS3⟩))
  go_ret
  exact ⟨rfl, hS3⟩

set_option maxRecDepth 100000 in
set_option maxHeartbeats 2000000 in
theorem lens_empty {w : World} {d total : Nat} {limit : Int} {s : DS} {c : DC} {l : List Bool} {Rs : List Res}
    (hS : Sat w (decR d (headV s c) c.win (footV total limit c.ov c.rv 0) :: rd c.r l :: oc c.fv s.first :: sl 3 1 s.row.length c.rowv ((natsV s.row).map intV) :: Rs)) (hst : s.st = 5)
    (hf : s.row.length ≠ s.lits + s.dists) (hl : s.lits ≤ 286) (hl2 : s.dists ≤ 30) (hr : s.row.length ≤ 316) (h : (decO s.first l).2.1 = 0) (h16 : (decO s.first l).1 = 16) (h0 : s.row = []) :
    Calls Try.prog 54 #[.pointer (some ⟨d, 0, none⟩)] w fun e' w' => e' = .returned (.bool true) ∧
      ∃ h', Sat w' (decR d h' c.win (footV total limit c.ov c.rv 5) :: Rs) ∧ ∃ k : Int, h'[1]? = some (.int .i64 k) := by
  have hn0 : s.row.length = 0 := by rw [h0]; rfl
  rw [hn0] at hf
  obtain ⟨F, ao, cap, hv, -, -, -, -⟩ := hS.at_ 3 _ rfl
  have q1 : w.cell? ⟨d, 1, none⟩ = some (.int .i64 5) := by have := (dec_h hS 1 _ rfl).1; rw [hst] at this; exact this
  have q7 : w.cell? ⟨d, 7, none⟩ = some (.int .i64 s.lits) := (dec_h hS 7 _ rfl).1
  have q8 : w.cell? ⟨d, 8, none⟩ = some (.int .i64 s.dists) := (dec_h hS 8 _ rfl).1
  rw [hn0] at hv hr
  have q9 : w.cell? ⟨d, 9, none⟩ = some (.slice ao 0 cap) := by have := (dec_h hS 9 _ rfl).1; rw [hv] at this; exact this
  have q10 : w.cell? ⟨d, 10, none⟩ = some c.fv := (dec_h hS 10 _ rfl).1
  obtain ⟨m, Hm⟩ : ∃ m, Hid (s.lits + s.dists = m) := ⟨_, Lib.hid rfl⟩
  have hsum : (s.lits : Int) + (s.dists : Int) = (m : Int) := by have := Hm.out; omega
  have hne : ((0 : Int) == (m : Int)) = false := beq_eq_false_iff_ne.2 (by have := Hm.out; omega)
  have hne2 : ¬ 0 = m := by have := Hm.out; omega
  have Hw := Lib.hid (word_d (Sat.perm (As := [_, _, _, _]) hS.drew [0, 1, 2, 3] [_, _, _, _] rfl (by simp)) rfl)
  have hb : ((decO s.first l).2.1 == 0) = true := beq_iff_eq.2 h
  rw [hb, h, show errW 0 0 = 0 from rfl] at Hw
  have hvp : ∃ a, c.fv = .pointer a := by
    rcases oc_out (Sat.front hS 2 _ rfl) with ⟨-, h, -⟩ | ⟨_, _, -, h, -, -, -⟩
    · exact ⟨_, h⟩
    · exact ⟨_, h⟩
  obtain ⟨av, hav⟩ := hvp
  rw [hav] at Hw q10
  have Hst := Lib.hid hst
  have Hl : Hid (s.lits ≤ 286 ∧ s.dists ≤ 30 ∧ (0 : Nat) ≤ 316) := ⟨hl, hl2, hr⟩
  clear h0 hn0
  clear hS h hst hb hf hr
  generalize (decO s.first l).1 = x at *
  generalize (decO s.first l).2.2 = n at *
  subst h16
  go_enter Try.func54, Try.ntmps54
  go_wp2
  go_region
  go_wp2_with (go_at_call 55; refine Hw.out.mono ?_; rintro e' w2 ⟨rfl, hS2⟩; have p9 : w2.cell? ⟨d, 9, none⟩ = some (.slice ao 0 cap) := (by have := (dec_h hS2 9 _ rfl).1; rw [hv] at this; exact this); have t4 : w2.cell? ⟨d, 32785, none⟩ = some (.int .i64 0) := (dec_t hS2 4 _ rfl).1; have tf : w2.frozen? ⟨d, 32785, none⟩ = false := (dec_t hS2 4 _ rfl).2; have H := Lib.hid (dec_set_t (Sat.perm (As := [_, _, _, _]) hS2 [0] [_] rfl (by simp)) 4 (by omega) (.int .i64 5)))
  go_ret
  exact ⟨rfl, _, H.out, _, rfl⟩

set_option maxRecDepth 100000 in
set_option maxHeartbeats 4000000 in
theorem lens_more {w : World} {d total : Nat} {limit : Int} {s : DS} {c : DC} {l : List Bool} {Rs : List Res}
    (hS : Sat w (decR d (headV s c) c.win (footV total limit c.ov c.rv 0) :: rd c.r l :: oc c.fv s.first :: sl 3 1 s.row.length c.rowv ((natsV s.row).map intV) :: Rs)) (hst : s.st = 5)
    (hf : s.row.length ≠ s.lits + s.dists) (hl : s.lits ≤ 286) (hl2 : s.dists ≤ 30) (hr : s.row.length ≤ 316) (h : (decO s.first l).2.1 = 0) (h16 : (decO s.first l).1 = 17 ∨ (decO s.first l).1 = 18) :
    Calls Try.prog 54 #[.pointer (some ⟨d, 0, none⟩)] w fun e' w' => e' = .returned (.bool true) ∧
      Sat w' (decR d (headV { s with left := 0, extra := ([2, 3, 7][(decO s.first l).1 - 16]?).getD 0, base := ([3, 3, 11][(decO s.first l).1 - 16]?).getD 0, st := 6 } c) c.win (footV total limit c.ov c.rv 0) :: rd c.r (l.drop (decO s.first l).2.2) :: oc c.fv s.first ::
        sl 3 1 s.row.length c.rowv ((natsV s.row).map intV) :: Rs) := by
  obtain ⟨F, ao, cap, hv, -, -, -, -⟩ := hS.at_ 3 _ rfl
  have q1 : w.cell? ⟨d, 1, none⟩ = some (.int .i64 5) := by have := (dec_h hS 1 _ rfl).1; rw [hst] at this; exact this
  have q7 : w.cell? ⟨d, 7, none⟩ = some (.int .i64 s.lits) := (dec_h hS 7 _ rfl).1
  have q8 : w.cell? ⟨d, 8, none⟩ = some (.int .i64 s.dists) := (dec_h hS 8 _ rfl).1
  have q9 : w.cell? ⟨d, 9, none⟩ = some (.slice ao s.row.length cap) := by have := (dec_h hS 9 _ rfl).1; rw [hv] at this; exact this
  have q10 : w.cell? ⟨d, 10, none⟩ = some c.fv := (dec_h hS 10 _ rfl).1
  obtain ⟨m, Hm⟩ : ∃ m, Hid (s.lits + s.dists = m) := ⟨_, Lib.hid rfl⟩
  have hsum : (s.lits : Int) + (s.dists : Int) = (m : Int) := by have := Hm.out; omega
  have hne : ((s.row.length : Int) == (m : Int)) = false := beq_eq_false_iff_ne.2 (by have := Hm.out; omega)
  have hne2 : ¬ s.row.length = m := by have := Hm.out; omega
  have Hw := Lib.hid (word_d (Sat.perm (As := [_, _, _, _]) hS.drew [0, 1, 2, 3] [_, _, _, _] rfl (by simp)) rfl)
  have hb : ((decO s.first l).2.1 == 0) = true := beq_iff_eq.2 h
  rw [hb, h, show errW 0 0 = 0 from rfl] at Hw
  have hvp : ∃ a, c.fv = .pointer a := by
    rcases oc_out (Sat.front hS 2 _ rfl) with ⟨-, h, -⟩ | ⟨_, _, -, h, -, -, -⟩
    · exact ⟨_, h⟩
    · exact ⟨_, h⟩
  obtain ⟨av, hav⟩ := hvp
  rw [hav] at Hw q10
  have Hst := Lib.hid hst
  have Hl : Hid (s.lits ≤ 286 ∧ s.dists ≤ 30 ∧ s.row.length ≤ 316) := ⟨hl, hl2, hr⟩
  clear hS h hst hb hf hr
  rw [hav]
  generalize (decO s.first l).1 = x at *
  generalize (decO s.first l).2.2 = n at *
  rcases h16 with rfl | rfl
  all_goals
    go_enter Try.func54, Try.ntmps54
    go_wp2
    go_region
    go_wp2_with (go_at_call 55; refine Hw.out.mono ?_; rintro e' w2 ⟨rfl, hS2⟩; have p1 : w2.cell? ⟨d, 1, none⟩ = some (.int .i64 5) := (by have := (dec_h hS2 1 _ rfl).1; rw [Hst.out] at this; exact this); have f1 : w2.frozen? ⟨d, 1, none⟩ = false := (dec_h hS2 1 _ rfl).2; have p3 : w2.cell? ⟨d, 3, none⟩ = some (.int .i64 s.left) := (dec_h hS2 3 _ rfl).1; have f3 : w2.frozen? ⟨d, 3, none⟩ = false := (dec_h hS2 3 _ rfl).2; have p5 : w2.cell? ⟨d, 5, none⟩ = some (.int .i64 s.extra) := (dec_h hS2 5 _ rfl).1; have f5 : w2.frozen? ⟨d, 5, none⟩ = false := (dec_h hS2 5 _ rfl).2; have p6 : w2.cell? ⟨d, 6, none⟩ = some (.int .i64 s.base) := (dec_h hS2 6 _ rfl).1; have f6 : w2.frozen? ⟨d, 6, none⟩ = false := (dec_h hS2 6 _ rfl).2; have HS2 := Lib.hid hS2; clear hS2)
    have k3 : ∀ o1 o2, ((w2.alloc o1).alloc o2).cell? ⟨d, 3, none⟩ = some (.int .i64 s.left) := fun o1 o2 => (dec_h ((HS2.out.alloc_drop o1).alloc_drop o2) 3 _ rfl).1
    have k5 : ∀ o1 o2, ((w2.alloc o1).alloc o2).cell? ⟨d, 5, none⟩ = some (.int .i64 s.extra) := fun o1 o2 => (dec_h ((HS2.out.alloc_drop o1).alloc_drop o2) 5 _ rfl).1
    have k6 : ∀ o1 o2, ((w2.alloc o1).alloc o2).cell? ⟨d, 6, none⟩ = some (.int .i64 s.base) := fun o1 o2 => (dec_h ((HS2.out.alloc_drop o1).alloc_drop o2) 6 _ rfl).1
    have l3 : ∀ o1 o2, ((w2.alloc o1).alloc o2).frozen? ⟨d, 3, none⟩ = false := fun o1 o2 => (dec_h ((HS2.out.alloc_drop o1).alloc_drop o2) 3 _ rfl).2
    have l5 : ∀ o1 o2, ((w2.alloc o1).alloc o2).frozen? ⟨d, 5, none⟩ = false := fun o1 o2 => (dec_h ((HS2.out.alloc_drop o1).alloc_drop o2) 5 _ rfl).2
    have l6 : ∀ o1 o2, ((w2.alloc o1).alloc o2).frozen? ⟨d, 6, none⟩ = false := fun o1 o2 => (dec_h ((HS2.out.alloc_drop o1).alloc_drop o2) 6 _ rfl).2
    have k1 : ∀ o1 o2, ((w2.alloc o1).alloc o2).cell? ⟨d, 1, none⟩ = some (.int .i64 5) := fun o1 o2 => by have := (dec_h ((HS2.out.alloc_drop o1).alloc_drop o2) 1 _ rfl).1; rw [Hst.out] at this; exact this
    have l1 : ∀ o1 o2, ((w2.alloc o1).alloc o2).frozen? ⟨d, 1, none⟩ = false := fun o1 o2 => (dec_h ((HS2.out.alloc_drop o1).alloc_drop o2) 1 _ rfl).2
    go_region
    all_goals
      go_wp2
      go_ret
      refine ⟨rfl, ?_⟩
      first
        | exact (dec_set_h (dec_set_h (dec_set_h (dec_set_h ((HS2.out.alloc_drop _).alloc_drop _) 3 (by omega) _) 5 (by omega) _) 6 (by omega) _) 1 (by omega) _).drew
        | exact dec_set_h (dec_set_h (dec_set_h (dec_set_h ((HS2.out.alloc_drop _).alloc_drop _) 3 (by omega) _) 5 (by omega) _) 6 (by omega) _).drew 1 (by omega) _

end Go.Proofs.Ytdpocnkeokplpaa

namespace Go.Proofs.Ytdpocnkeokplpaa
open Go.RowKit Go.Hal
set_option linter.unusedVariables false
set_option linter.unusedSimpArgs false

set_option maxRecDepth 100000 in
set_option maxHeartbeats 4000000 in
theorem lens_last {w : World} {d total : Nat} {limit : Int} {s : DS} {c : DC} {l : List Bool} {Rs : List Res}
    (hS : Sat w (decR d (headV s c) c.win (footV total limit c.ov c.rv 0) :: rd c.r l :: oc c.fv s.first :: sl 3 1 s.row.length c.rowv ((natsV s.row).map intV) :: Rs)) (hst : s.st = 5)
    (hf : s.row.length ≠ s.lits + s.dists) (hl : s.lits ≤ 286) (hl2 : s.dists ≤ 30) (hr : s.row.length ≤ 316) (h : (decO s.first l).2.1 = 0) (h16 : (decO s.first l).1 = 16) (y : Nat) (hy : s.row[s.row.length - 1]? = some y) (hn0 : 0 < s.row.length) :
    Calls Try.prog 54 #[.pointer (some ⟨d, 0, none⟩)] w fun e' w' => e' = .returned (.bool true) ∧
      Sat w' (decR d (headV { s with left := y, extra := 2, base := 3, st := 6 } c) c.win (footV total limit c.ov c.rv 0) :: rd c.r (l.drop (decO s.first l).2.2) :: oc c.fv s.first ::
        sl 3 1 s.row.length c.rowv ((natsV s.row).map intV) :: Rs) := by
  obtain ⟨b, o, cap, hv, -, -, -, -, -⟩ := (Sat.front hS 3 _ rfl).sl_cells hn0
  obtain ⟨k, Hk⟩ : ∃ k, Hid (s.row.length = k + 1) := ⟨s.row.length - 1, by unfold Hid; omega⟩
  have hdb : b ≠ d := by
    obtain ⟨C, -, hC⟩ := dec_open hS
    rw [hv] at hC
    exact hC.apart 3 0 rfl rfl (by decide) (sl_owns _ _ _ _ _ _ _ hn0) (blk_owns _ _)
  rw [Hk.out, Nat.add_sub_cancel] at hy
  have Hy := Lib.hid hy
  have q1 : w.cell? ⟨d, 1, none⟩ = some (.int .i64 5) := by have := (dec_h hS 1 _ rfl).1; rw [hst] at this; exact this
  have q7 : w.cell? ⟨d, 7, none⟩ = some (.int .i64 s.lits) := (dec_h hS 7 _ rfl).1
  have q8 : w.cell? ⟨d, 8, none⟩ = some (.int .i64 s.dists) := (dec_h hS 8 _ rfl).1
  have q9 : w.cell? ⟨d, 9, none⟩ = some (.slice (some ⟨b, o, none⟩) (k + 1) cap) := by have := (dec_h hS 9 _ rfl).1; rw [hv, Hk.out] at this; exact this
  have q10 : w.cell? ⟨d, 10, none⟩ = some c.fv := (dec_h hS 10 _ rfl).1
  obtain ⟨m, Hm⟩ : ∃ m, Hid (s.lits + s.dists = m) := ⟨_, Lib.hid rfl⟩
  have hsum : (s.lits : Int) + (s.dists : Int) = (m : Int) := by have := Hm.out; omega
  have hne : ((k : Int) + 1 == (m : Int)) = false := beq_eq_false_iff_ne.2 (by have := Hm.out; have := Hk.out; omega)
  have hne2 : ¬ k + 1 = m := by have := Hm.out; have := Hk.out; omega
  have hk316 : k ≤ 316 := by have := Hk.out; omega
  have Hw := Lib.hid (word_d (Sat.perm (As := [_, _, _, _]) hS.drew [0, 1, 2, 3] [_, _, _, _] rfl (by simp)) rfl)
  have hb : ((decO s.first l).2.1 == 0) = true := beq_iff_eq.2 h
  rw [hb, h, show errW 0 0 = 0 from rfl] at Hw
  have hvp : ∃ a, c.fv = .pointer a := by
    rcases oc_out (Sat.front hS 2 _ rfl) with ⟨-, h, -⟩ | ⟨_, _, -, h, -, -, -⟩
    · exact ⟨_, h⟩
    · exact ⟨_, h⟩
  obtain ⟨av, hav⟩ := hvp
  rw [hav] at Hw q10
  have Hst := Lib.hid hst
  have Hl : Hid (s.lits ≤ 286 ∧ s.dists ≤ 30 ∧ s.row.length ≤ 316) := ⟨hl, hl2, hr⟩
  clear hS h hst hb hf hr hy hn0
  rw [hav]
  generalize (decO s.first l).1 = x at *
  generalize (decO s.first l).2.2 = n at *
  subst h16
  skip
  all_goals
    go_enter Try.func54, Try.ntmps54
    go_wp2
    go_region
    go_wp2_with (go_at_call 55; refine Hw.out.mono ?_; rintro e' w2 ⟨rfl, hS2⟩; have p1 : w2.cell? ⟨d, 1, none⟩ = some (.int .i64 5) := (by have := (dec_h hS2 1 _ rfl).1; rw [Hst.out] at this; exact this); have f1 : w2.frozen? ⟨d, 1, none⟩ = false := (dec_h hS2 1 _ rfl).2; have p3 : w2.cell? ⟨d, 3, none⟩ = some (.int .i64 s.left) := (dec_h hS2 3 _ rfl).1; have f3 : w2.frozen? ⟨d, 3, none⟩ = false := (dec_h hS2 3 _ rfl).2; have p5 : w2.cell? ⟨d, 5, none⟩ = some (.int .i64 s.extra) := (dec_h hS2 5 _ rfl).1; have f5 : w2.frozen? ⟨d, 5, none⟩ = false := (dec_h hS2 5 _ rfl).2; have p6 : w2.cell? ⟨d, 6, none⟩ = some (.int .i64 s.base) := (dec_h hS2 6 _ rfl).1; have f6 : w2.frozen? ⟨d, 6, none⟩ = false := (dec_h hS2 6 _ rfl).2; have p9 : w2.cell? ⟨d, 9, none⟩ = some (.slice (some ⟨b, o, none⟩) (k + 1) cap) := (by have := (dec_h hS2 9 _ rfl).1; rw [hv, Hk.out] at this; exact this); have HS2 := Lib.hid hS2; clear hS2)
    have k3 : ∀ o1 o2, ((w2.alloc o1).alloc o2).cell? ⟨d, 3, none⟩ = some (.int .i64 s.left) := fun o1 o2 => (dec_h ((HS2.out.alloc_drop o1).alloc_drop o2) 3 _ rfl).1
    have k5 : ∀ o1 o2, ((w2.alloc o1).alloc o2).cell? ⟨d, 5, none⟩ = some (.int .i64 s.extra) := fun o1 o2 => (dec_h ((HS2.out.alloc_drop o1).alloc_drop o2) 5 _ rfl).1
    have k6 : ∀ o1 o2, ((w2.alloc o1).alloc o2).cell? ⟨d, 6, none⟩ = some (.int .i64 s.base) := fun o1 o2 => (dec_h ((HS2.out.alloc_drop o1).alloc_drop o2) 6 _ rfl).1
    have l3 : ∀ o1 o2, ((w2.alloc o1).alloc o2).frozen? ⟨d, 3, none⟩ = false := fun o1 o2 => (dec_h ((HS2.out.alloc_drop o1).alloc_drop o2) 3 _ rfl).2
    have l5 : ∀ o1 o2, ((w2.alloc o1).alloc o2).frozen? ⟨d, 5, none⟩ = false := fun o1 o2 => (dec_h ((HS2.out.alloc_drop o1).alloc_drop o2) 5 _ rfl).2
    have l6 : ∀ o1 o2, ((w2.alloc o1).alloc o2).frozen? ⟨d, 6, none⟩ = false := fun o1 o2 => (dec_h ((HS2.out.alloc_drop o1).alloc_drop o2) 6 _ rfl).2
    have k1 : ∀ o1 o2, ((w2.alloc o1).alloc o2).cell? ⟨d, 1, none⟩ = some (.int .i64 5) := fun o1 o2 => by have := (dec_h ((HS2.out.alloc_drop o1).alloc_drop o2) 1 _ rfl).1; rw [Hst.out] at this; exact this
    have l1 : ∀ o1 o2, ((w2.alloc o1).alloc o2).frozen? ⟨d, 1, none⟩ = false := fun o1 o2 => (dec_h ((HS2.out.alloc_drop o1).alloc_drop o2) 1 _ rfl).2
    go_region
    · have hS5 : Sat ((((((w2.alloc (.cells #[.int .i64 2, .int .i64 3, .int .i64 7] 3)).alloc (.cells #[.int .i64 3, .int .i64 3, .int .i64 11] 3)).setCell ⟨d, 3, none⟩ (.int .i64 0)).setCell ⟨d, 5, none⟩ (.int .i64 2)).setCell ⟨d, 6, none⟩ (.int .i64 3)).drew) _ := (dec_set_h (dec_set_h (dec_set_h ((HS2.out.alloc_drop (.cells #[.int .i64 2, .int .i64 3, .int .i64 7] 3)).alloc_drop (.cells #[.int .i64 3, .int .i64 3, .int .i64 11] 3)) 3 (by omega) (.int .i64 0)) 5 (by omega) (.int .i64 2)) 6 (by omega) (.int .i64 3)).drew
      clear k1 k3 k5 k6 l1 l3 l5 l6 p1 p3 p5 p6 p9 f1 f3 f5 f6
      generalize (((((w2.alloc (.cells #[.int .i64 2, .int .i64 3, .int .i64 7] 3)).alloc (.cells #[.int .i64 3, .int .i64 3, .int .i64 11] 3)).setCell ⟨d, 3, none⟩ (.int .i64 0)).setCell ⟨d, 5, none⟩ (.int .i64 2)).setCell ⟨d, 6, none⟩ (.int .i64 3)).drew = W5 at hS5 ⊢
      have g1 : W5.cell? ⟨d, 1, none⟩ = some (.int .i64 5) := by have := (dec_h hS5 1 _ rfl).1; rw [Hst.out] at this; exact this
      have e1 : W5.frozen? ⟨d, 1, none⟩ = false := (dec_h hS5 1 _ rfl).2
      have g3 : W5.cell? ⟨d, 3, none⟩ = some (.int .i64 0) := (dec_h hS5 3 _ rfl).1
      have e3 : W5.frozen? ⟨d, 3, none⟩ = false := (dec_h hS5 3 _ rfl).2
      have g9 : W5.cell? ⟨d, 9, none⟩ = some (.slice (some ⟨b, o, none⟩) (k + 1) cap) := by have := (dec_h hS5 9 _ rfl).1; rw [hv, Hk.out] at this; exact this
      have gb : W5.cell? ⟨b, o + k, none⟩ = some (.int .i64 y) := by
        have h9 := (Sat.front hS5 3 _ rfl).sl_read
        rw [hv] at h9
        exact slr_cell h9 (by unfold natsV; rw [List.getElem?_map, List.getElem?_map, Hy.out]; rfl)
      have hS6 := (dec_set_h hS5 3 (by omega) (.int .i64 y)).drew
      have H6 := Lib.hid (dec_set_h (dec_set_h hS5 3 (by omega) (.int .i64 y)) 1 (by omega) (.int .i64 6)).drew
      clear hS5 hS6
      go_wp2_with fail
      go_region
      go_wp2
      go_ret
      exact ⟨rfl, H6.out⟩
    · have hS5 : Sat ((((((w2.alloc (.cells #[.int .i64 3, .int .i64 3, .int .i64 11] 3)).alloc (.cells #[.int .i64 2, .int .i64 3, .int .i64 7] 3)).setCell ⟨d, 3, none⟩ (.int .i64 0)).setCell ⟨d, 5, none⟩ (.int .i64 2)).setCell ⟨d, 6, none⟩ (.int .i64 3)).drew) _ := (dec_set_h (dec_set_h (dec_set_h ((HS2.out.alloc_drop (.cells #[.int .i64 3, .int .i64 3, .int .i64 11] 3)).alloc_drop (.cells #[.int .i64 2, .int .i64 3, .int .i64 7] 3)) 3 (by omega) (.int .i64 0)) 5 (by omega) (.int .i64 2)) 6 (by omega) (.int .i64 3)).drew
      clear k1 k3 k5 k6 l1 l3 l5 l6 p1 p3 p5 p6 p9 f1 f3 f5 f6
      generalize (((((w2.alloc (.cells #[.int .i64 3, .int .i64 3, .int .i64 11] 3)).alloc (.cells #[.int .i64 2, .int .i64 3, .int .i64 7] 3)).setCell ⟨d, 3, none⟩ (.int .i64 0)).setCell ⟨d, 5, none⟩ (.int .i64 2)).setCell ⟨d, 6, none⟩ (.int .i64 3)).drew = W5 at hS5 ⊢
      have g1 : W5.cell? ⟨d, 1, none⟩ = some (.int .i64 5) := by have := (dec_h hS5 1 _ rfl).1; rw [Hst.out] at this; exact this
      have e1 : W5.frozen? ⟨d, 1, none⟩ = false := (dec_h hS5 1 _ rfl).2
      have g3 : W5.cell? ⟨d, 3, none⟩ = some (.int .i64 0) := (dec_h hS5 3 _ rfl).1
      have e3 : W5.frozen? ⟨d, 3, none⟩ = false := (dec_h hS5 3 _ rfl).2
      have g9 : W5.cell? ⟨d, 9, none⟩ = some (.slice (some ⟨b, o, none⟩) (k + 1) cap) := by have := (dec_h hS5 9 _ rfl).1; rw [hv, Hk.out] at this; exact this
      have gb : W5.cell? ⟨b, o + k, none⟩ = some (.int .i64 y) := by
        have h9 := (Sat.front hS5 3 _ rfl).sl_read
        rw [hv] at h9
        exact slr_cell h9 (by unfold natsV; rw [List.getElem?_map, List.getElem?_map, Hy.out]; rfl)
      have hS6 := (dec_set_h hS5 3 (by omega) (.int .i64 y)).drew
      have H6 := Lib.hid (dec_set_h (dec_set_h hS5 3 (by omega) (.int .i64 y)) 1 (by omega) (.int .i64 6)).drew
      clear hS5 hS6
      go_wp2_with fail
      go_region
      go_wp2
      go_ret
      exact ⟨rfl, H6.out⟩

end Go.Proofs.Ytdpocnkeokplpaa
