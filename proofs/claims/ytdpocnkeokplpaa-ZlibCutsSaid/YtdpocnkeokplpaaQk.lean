/- inflate.Decoder: copies, of a length. inflate.Decoder: copies, of a distance. inflate.Decoder: copies, the copy. -/
import Derived.Test.YtdpocnkeokplpaaQi
import Derived.Deep.RegionWith
import Derived.Deep.LoopGhost
import Derived.StillTailTactics
namespace Go.Proofs.Ytdpocnkeokplpaa
open Go.RowKit Go.Hal
set_option linter.unusedVariables false
set_option linter.unusedSimpArgs false

set_option maxRecDepth 100000 in
set_option maxHeartbeats 2000000 in
theorem longer_stop {w : World} {d total e : Nat} {limit : Int} {s : DS} {c : DC} {l : List Bool} {Rs : List Res} (hS : Sat w (decR d (headV s c) c.win (footV total limit c.ov c.rv e) :: rd c.r l :: Rs)) (hst : s.st = 8 ∨ s.st = 10) (hx : s.extra ≤ 13)
    (h : l.length < s.extra) :
    Calls Try.prog 57 #[.pointer (some ⟨d, 0, none⟩)] w fun e' w' => e' = .returned (.bool false) ∧
      Sat w' (decR d (headV s c) c.win (footV total limit c.ov c.rv e) :: rd c.r l :: Rs) := by
  have q0 : w.cell? ⟨d, 0, none⟩ = some (.pointer (some ⟨c.r, 0, none⟩)) := (dec_h hS 0 _ rfl).1
  have q1 : w.cell? ⟨d, 1, none⟩ = some (.int .i64 s.st) := (dec_h hS 1 _ rfl).1
  have q5 : w.cell? ⟨d, 5, none⟩ = some (.int .i64 s.extra) := (dec_h hS 5 _ rfl).1
  have ht := fun k => take_rd_short (hS.drewN k).swap s.extra (by omega) h
  have Ht := Lib.hid ht
  have HS := Lib.hid (fun k => hS.drewN k)
  clear ht hS h
  rcases hst with hst | hst
  all_goals
    rw [hst] at q1
    clear hst
    go_enter Try.func57, Try.ntmps57
    go_wp2_with fail
    go_region_with (go_at_call 48; refine (Ht.out 1).mono ?_; rintro e' w2 ⟨rfl, k2, rfl⟩)
    all_goals
      go_wp2
      go_ret
      exact ⟨rfl, HS.out _⟩

set_option maxRecDepth 100000 in
set_option maxHeartbeats 2000000 in
theorem longer_go {w : World} {d total e : Nat} {limit : Int} {s : DS} {c : DC} {l : List Bool} {Rs : List Res} (hS : Sat w (decR d (headV s c) c.win (footV total limit c.ov c.rv e) :: rd c.r l :: Rs)) (hst : s.st = 8) (hx : s.extra ≤ 13) (hb : s.base ≤ 24577)
    (h : s.extra ≤ l.length) :
    Calls Try.prog 57 #[.pointer (some ⟨d, 0, none⟩)] w fun e' w' => e' = .returned (.bool true) ∧
      Sat w' (decR d (headV { s with left := s.base + num (l.take s.extra), st := 9 } c) c.win (footV total limit c.ov c.rv e) :: rd c.r (l.drop s.extra) :: Rs) := by
  have q0 : w.cell? ⟨d, 0, none⟩ = some (.pointer (some ⟨c.r, 0, none⟩)) := (dec_h hS 0 _ rfl).1
  have q1 : w.cell? ⟨d, 1, none⟩ = some (.int .i64 s.st) := (dec_h hS 1 _ rfl).1
  have q5 : w.cell? ⟨d, 5, none⟩ = some (.int .i64 s.extra) := (dec_h hS 5 _ rfl).1
  have ht := take_rd hS.drew.swap s.extra (by omega) h
  have hn := num_take_lt l s.extra 13 hx
  generalize num (l.take s.extra) = n at *
  have Ht := Lib.hid ht
  rw [hst] at q1
  have Hst := Lib.hid hst
  clear ht hS h hst
  go_enter Try.func57, Try.ntmps57
  go_wp2_with fail
  go_region_with (go_at_call 48; refine Ht.out.mono ?_; rintro e' w2 ⟨rfl, hS2⟩)
  all_goals
    have q1 : w2.cell? ⟨d, 1, none⟩ = some (.int .i64 8) := by have := (dec_h hS2.swap 1 _ rfl).1; rw [Hst.out] at this; exact this
    have f1 : w2.frozen? ⟨d, 1, none⟩ = false := (dec_h hS2.swap 1 _ rfl).2
    have q3 : w2.cell? ⟨d, 3, none⟩ = some (.int .i64 s.left) := (dec_h hS2.swap 3 _ rfl).1
    have f3 : w2.frozen? ⟨d, 3, none⟩ = false := (dec_h hS2.swap 3 _ rfl).2
    have q6 : w2.cell? ⟨d, 6, none⟩ = some (.int .i64 s.base) := (dec_h hS2.swap 6 _ rfl).1
    have H := Lib.hid (dec_set_h (dec_set_h hS2.swap 3 (by omega) (.int .i64 ((s.base : Int) + n))) 1 (by omega) (.int .i64 9))
    clear hS2
    go_wp2
    go_ret
    exact ⟨rfl, H.out⟩

set_option maxRecDepth 100000 in
set_option maxHeartbeats 2000000 in
theorem farther_go {w : World} {d total e : Nat} {limit : Int} {s : DS} {c : DC} {l : List Bool} {Rs : List Res} (hS : Sat w (decR d (headV s c) c.win (footV total limit c.ov c.rv e) :: rd c.r l :: Rs)) (hst : s.st = 10) (hx : s.extra ≤ 13) (hb : s.base ≤ 24577)
    (h : s.extra ≤ l.length) :
    Calls Try.prog 57 #[.pointer (some ⟨d, 0, none⟩)] w fun e' w' => e' = .returned (.bool true) ∧
      Sat w' (decR d (headV { s with far := s.base + num (l.take s.extra), st := 11 } c) c.win (footV total limit c.ov c.rv (if total < s.base + num (l.take s.extra) then 7 else e)) :: rd c.r (l.drop s.extra) :: Rs) := by
  have q0 : w.cell? ⟨d, 0, none⟩ = some (.pointer (some ⟨c.r, 0, none⟩)) := (dec_h hS 0 _ rfl).1
  have q1 : w.cell? ⟨d, 1, none⟩ = some (.int .i64 s.st) := (dec_h hS 1 _ rfl).1
  have q5 : w.cell? ⟨d, 5, none⟩ = some (.int .i64 s.extra) := (dec_h hS 5 _ rfl).1
  have ht := take_rd hS.drew.swap s.extra (by omega) h
  have hn := num_take_lt l s.extra 13 hx
  generalize num (l.take s.extra) = n at *
  have Ht := Lib.hid ht
  rw [hst] at q1
  have Hst := Lib.hid hst
  clear ht hS h hst
  by_cases hc : total < s.base + n
  · have hd : decide ((total : Int) < (s.base : Int) + n) = true := decide_eq_true (by omega)
    rw [if_pos hc]
    clear hc
    go_enter Try.func57, Try.ntmps57
    go_wp2_with fail
    go_region_with (go_at_call 48; refine Ht.out.mono ?_; rintro e' w2 ⟨rfl, hS2⟩)
    all_goals
      have q1 : w2.cell? ⟨d, 1, none⟩ = some (.int .i64 10) := by have := (dec_h hS2.swap 1 _ rfl).1; rw [Hst.out] at this; exact this
      have f1 : w2.frozen? ⟨d, 1, none⟩ = false := (dec_h hS2.swap 1 _ rfl).2
      have q4 : w2.cell? ⟨d, 4, none⟩ = some (.int .i64 s.far) := (dec_h hS2.swap 4 _ rfl).1
      have f4 : w2.frozen? ⟨d, 4, none⟩ = false := (dec_h hS2.swap 4 _ rfl).2
      have q6 : w2.cell? ⟨d, 6, none⟩ = some (.int .i64 s.base) := (dec_h hS2.swap 6 _ rfl).1
      have t0 : w2.cell? ⟨d, 32781, none⟩ = some (.int .i64 total) := (dec_t hS2.swap 0 _ rfl).1
      have t4 : w2.cell? ⟨d, 32785, none⟩ = some (.int .i64 e) := (dec_t hS2.swap 4 _ rfl).1
      have tf : w2.frozen? ⟨d, 32785, none⟩ = false := (dec_t hS2.swap 4 _ rfl).2
      have H := Lib.hid (fun k => dec_set_t ((dec_set_h (dec_set_h hS2.swap 4 (by omega) (.int .i64 ((s.base : Int) + n))) 1 (by omega) (.int .i64 11)).drewN k) 4 (by omega) (.int .i64 7))
      clear hS2
      go_wp2
      go_region
      go_wp2
      go_ret
      exact ⟨rfl, H.out _⟩
  · have hd : decide ((total : Int) < (s.base : Int) + n) = false := decide_eq_false (by omega)
    rw [if_neg hc]
    clear hc
    go_enter Try.func57, Try.ntmps57
    go_wp2_with fail
    go_region_with (go_at_call 48; refine Ht.out.mono ?_; rintro e' w2 ⟨rfl, hS2⟩)
    all_goals
      have q1 : w2.cell? ⟨d, 1, none⟩ = some (.int .i64 10) := by have := (dec_h hS2.swap 1 _ rfl).1; rw [Hst.out] at this; exact this
      have f1 : w2.frozen? ⟨d, 1, none⟩ = false := (dec_h hS2.swap 1 _ rfl).2
      have q4 : w2.cell? ⟨d, 4, none⟩ = some (.int .i64 s.far) := (dec_h hS2.swap 4 _ rfl).1
      have f4 : w2.frozen? ⟨d, 4, none⟩ = false := (dec_h hS2.swap 4 _ rfl).2
      have q6 : w2.cell? ⟨d, 6, none⟩ = some (.int .i64 s.base) := (dec_h hS2.swap 6 _ rfl).1
      have t0 : w2.cell? ⟨d, 32781, none⟩ = some (.int .i64 total) := (dec_t hS2.swap 0 _ rfl).1
      have H := Lib.hid (fun k => (dec_set_h (dec_set_h hS2.swap 4 (by omega) (.int .i64 ((s.base : Int) + n))) 1 (by omega) (.int .i64 11)).drewN k)
      clear hS2
      go_wp2
      go_region
      go_wp2
      go_ret
      exact ⟨rfl, H.out _⟩

end Go.Proofs.Ytdpocnkeokplpaa

namespace Go.Proofs.Ytdpocnkeokplpaa
open Go.RowKit Go.Hal
set_option linter.unusedVariables false
set_option linter.unusedSimpArgs false

theorem dis_val (t : Nat) (h : 4 ≤ t) (h2 : t ≤ 29) : ((t : Int) / 2 - 1 = ((disE t).1 : Nat)) ∧
    wrap64 (wrap64 (bits BinOp.or IntKind.i64 2 (bits BinOp.and IntKind.i64 (t : Int) 1) * 2 ^ (t / 2 - 1)) + 1) = ((disE t).2 : Nat) := by
  have : ∀ t : Fin 30, 4 ≤ t.val → ((t.val : Int) / 2 - 1 = ((disE t.val).1 : Nat)) ∧
    wrap64 (wrap64 (bits BinOp.or IntKind.i64 2 (bits BinOp.and IntKind.i64 (t.val : Int) 1) * 2 ^ (t.val / 2 - 1)) + 1) = ((disE t.val).2 : Nat) := by decide +kernel
  exact this ⟨t, by omega⟩ h

set_option maxRecDepth 100000 in
set_option maxHeartbeats 2000000 in
/-- No word: too few bits, or none that may be. -/
theorem dist_no {w : World} {d total e : Nat} {limit : Int} {s : DS} {c : DC} {l : List Bool} {Rs : List Res} (hS : Sat w (decR d (headV s c) c.win (footV total limit c.ov c.rv e) :: rd c.r l :: oc c.wv s.way :: Rs)) (hst : s.st = 9)
    (h : (decO s.way l).2.1 ≠ 0) :
    Calls Try.prog 57 #[.pointer (some ⟨d, 0, none⟩)] w fun e' w' => e' = .returned (.bool false) ∧
      Sat w' (decR d (headV s c) c.win (footV total limit c.ov c.rv (errW e (decO s.way l).2.1)) :: rd c.r (l.drop (decO s.way l).2.2) :: oc c.wv s.way :: Rs) := by
  have q1 : w.cell? ⟨d, 1, none⟩ = some (.int .i64 s.st) := (dec_h hS 1 _ rfl).1
  have q12 : w.cell? ⟨d, 12, none⟩ = some c.wv := (dec_h hS 12 _ rfl).1
  rw [hst] at q1
  have Hw := Lib.hid (word_d hS rfl)
  obtain ⟨y, hy⟩ : ∃ y, (decO s.way l).2.1 = y := ⟨_, rfl⟩
  have hb : ((decO s.way l).2.1 == 0) = false := beq_eq_false_iff_ne.2 h
  rw [hb] at Hw
  have hvp : ∃ a, c.wv = .pointer a := by
    rcases oc_out (Sat.front hS 2 _ rfl) with ⟨-, h, -⟩ | ⟨_, _, -, h, -, -, -⟩
    · exact ⟨_, h⟩
    · exact ⟨_, h⟩
  obtain ⟨av, hav⟩ := hvp
  rw [hav] at Hw q12
  clear hS h hst hy hb
  go_enter Try.func57, Try.ntmps57
  go_wp2_with (go_at_call 55; refine Hw.out.mono ?_; rintro e' w2 ⟨rfl, hS2⟩)
  go_ret
  rw [hav]
  exact ⟨rfl, hS2⟩

set_option maxRecDepth 100000 in
set_option maxHeartbeats 2000000 in
/-- A wrong symbol. -/
theorem dist_bad {w : World} {d total e : Nat} {limit : Int} {s : DS} {c : DC} {l : List Bool} {Rs : List Res} (hS : Sat w (decR d (headV s c) c.win (footV total limit c.ov c.rv e) :: rd c.r l :: oc c.wv s.way :: Rs)) (hst : s.st = 9)
    (h : (decO s.way l).2.1 = 0) (h2 : (decO s.way l).1 = 30 ∨ (decO s.way l).1 = 31) :
    Calls Try.prog 57 #[.pointer (some ⟨d, 0, none⟩)] w fun e' w' => e' = .returned (.bool true) ∧
      ∃ h', Sat w' (decR d h' c.win (footV total limit c.ov c.rv 6) :: Rs) ∧ ∃ k : Int, h'[1]? = some (.int .i64 k) := by
  have q1 : w.cell? ⟨d, 1, none⟩ = some (.int .i64 s.st) := (dec_h hS 1 _ rfl).1
  have q12 : w.cell? ⟨d, 12, none⟩ = some c.wv := (dec_h hS 12 _ rfl).1
  rw [hst] at q1
  have Hw := Lib.hid (word_d hS rfl)
  have hb : ((decO s.way l).2.1 == 0) = true := beq_iff_eq.2 h
  rw [hb, h, show errW e 0 = e from rfl] at Hw
  have hvp : ∃ a, c.wv = .pointer a := by
    rcases oc_out (Sat.front hS 2 _ rfl) with ⟨-, h, -⟩ | ⟨_, _, -, h, -, -, -⟩
    · exact ⟨_, h⟩
    · exact ⟨_, h⟩
  obtain ⟨av, hav⟩ := hvp
  rw [hav] at Hw q12
  have Hst := Lib.hid hst
  clear hS h hst hb
  generalize (decO s.way l).1 = t at *
  generalize (decO s.way l).2.2 = n at *
  rcases h2 with rfl | rfl
  all_goals
    go_enter Try.func57, Try.ntmps57
    go_wp2_with (go_at_call 55; refine Hw.out.mono ?_; rintro e' w2 ⟨rfl, hS2⟩; have p1 : w2.cell? ⟨d, 1, none⟩ = some (.int .i64 9) := (by have := (dec_h hS2 1 _ rfl).1; rw [Hst.out] at this; exact this); have f1 : w2.frozen? ⟨d, 1, none⟩ = false := (dec_h hS2 1 _ rfl).2; have p5 : w2.cell? ⟨d, 5, none⟩ = some (.int .i64 s.extra) := (dec_h hS2 5 _ rfl).1; have f5 : w2.frozen? ⟨d, 5, none⟩ = false := (dec_h hS2 5 _ rfl).2; have p6 : w2.cell? ⟨d, 6, none⟩ = some (.int .i64 s.base) := (dec_h hS2 6 _ rfl).1; have f6 : w2.frozen? ⟨d, 6, none⟩ = false := (dec_h hS2 6 _ rfl).2; have t4 : w2.cell? ⟨d, 32785, none⟩ = some (.int .i64 e) := (dec_t hS2 4 _ rfl).1; have tf : w2.frozen? ⟨d, 32785, none⟩ = false := (dec_t hS2 4 _ rfl).2)
    have hS3 := Sat.perm (As := [_, _, _]) hS2 [0] [_] rfl (by simp)
    go_ret
    exact ⟨rfl, _, dec_set_h (dec_set_h (dec_set_t (dec_set_h (dec_set_h (dec_set_h hS3 5 (by omega) _) 6 (by omega) _) 1 (by omega) _) 4 (by omega) _) 5 (by omega) _) 6 (by omega) _, _, rfl⟩

set_option maxRecDepth 100000 in
set_option maxHeartbeats 2000000 in
theorem dist_go {w : World} {d total e : Nat} {limit : Int} {s : DS} {c : DC} {l : List Bool} {Rs : List Res} (hS : Sat w (decR d (headV s c) c.win (footV total limit c.ov c.rv e) :: rd c.r l :: oc c.wv s.way :: Rs)) (hst : s.st = 9)
    (h : (decO s.way l).2.1 = 0) (h2 : (decO s.way l).1 ≤ 29) :
    Calls Try.prog 57 #[.pointer (some ⟨d, 0, none⟩)] w fun e' w' => e' = .returned (.bool true) ∧
      Sat w' (decR d (headV { s with extra := (disE (decO s.way l).1).1, base := (disE (decO s.way l).1).2, st := 10 } c) c.win (footV total limit c.ov c.rv e) :: rd c.r (l.drop (decO s.way l).2.2) :: oc c.wv s.way :: Rs) := by
  have q1 : w.cell? ⟨d, 1, none⟩ = some (.int .i64 s.st) := (dec_h hS 1 _ rfl).1
  have q12 : w.cell? ⟨d, 12, none⟩ = some c.wv := (dec_h hS 12 _ rfl).1
  rw [hst] at q1
  have Hw := Lib.hid (word_d hS rfl)
  have hb : ((decO s.way l).2.1 == 0) = true := beq_iff_eq.2 h
  rw [hb, h, show errW e 0 = e from rfl] at Hw
  have hvp : ∃ a, c.wv = .pointer a := by
    rcases oc_out (Sat.front hS 2 _ rfl) with ⟨-, h, -⟩ | ⟨_, _, -, h, -, -, -⟩
    · exact ⟨_, h⟩
    · exact ⟨_, h⟩
  obtain ⟨av, hav⟩ := hvp
  rw [hav] at Hw q12
  have Hst := Lib.hid hst
  clear hS h hst hb
  generalize (decO s.way l).1 = t at *
  generalize (decO s.way l).2.2 = n at *
  have d29 : decide ((29 : Int) < t) = false := decide_eq_false (by omega)
  by_cases h3 : t ≤ 3
  · have d3 : decide ((3 : Int) < t) = false := decide_eq_false (by omega)
    have he : disE t = (0, t + 1) := by unfold disE; rw [if_neg (by omega)]
    have He := Lib.hid he
    clear he
    go_enter Try.func57, Try.ntmps57
    go_wp2_with (go_at_call 55; refine Hw.out.mono ?_; rintro e' w2 ⟨rfl, hS2⟩; have p1 : w2.cell? ⟨d, 1, none⟩ = some (.int .i64 9) := (by have := (dec_h hS2 1 _ rfl).1; rw [Hst.out] at this; exact this); have f1 : w2.frozen? ⟨d, 1, none⟩ = false := (dec_h hS2 1 _ rfl).2; have p5 : w2.cell? ⟨d, 5, none⟩ = some (.int .i64 s.extra) := (dec_h hS2 5 _ rfl).1; have f5 : w2.frozen? ⟨d, 5, none⟩ = false := (dec_h hS2 5 _ rfl).2; have p6 : w2.cell? ⟨d, 6, none⟩ = some (.int .i64 s.base) := (dec_h hS2 6 _ rfl).1; have f6 : w2.frozen? ⟨d, 6, none⟩ = false := (dec_h hS2 6 _ rfl).2)
    go_ret
    rw [He.out, hav]
    exact ⟨rfl, dec_set_h (dec_set_h (dec_set_h hS2 5 (by omega) _) 6 (by omega) _) 1 (by omega) _⟩
  · have d3 : decide ((3 : Int) < t) = true := decide_eq_true (by omega)
    go_enter Try.func57, Try.ntmps57
    go_wp2_with (go_at_call 55; refine Hw.out.mono ?_; rintro e' w2 ⟨rfl, hS2⟩; have p1 : w2.cell? ⟨d, 1, none⟩ = some (.int .i64 9) := (by have := (dec_h hS2 1 _ rfl).1; rw [Hst.out] at this; exact this); have f1 : w2.frozen? ⟨d, 1, none⟩ = false := (dec_h hS2 1 _ rfl).2; have p5 : w2.cell? ⟨d, 5, none⟩ = some (.int .i64 s.extra) := (dec_h hS2 5 _ rfl).1; have f5 : w2.frozen? ⟨d, 5, none⟩ = false := (dec_h hS2 5 _ rfl).2; have p6 : w2.cell? ⟨d, 6, none⟩ = some (.int .i64 s.base) := (dec_h hS2 6 _ rfl).1; have f6 : w2.frozen? ⟨d, 6, none⟩ = false := (dec_h hS2 6 _ rfl).2)
    go_ret
    have hv := dis_val t (by omega) h2
    rw [hv.1, hv.2, hav]
    exact ⟨rfl, dec_set_h (dec_set_h (dec_set_h (dec_set_h (dec_set_h hS2 5 (by omega) _) 6 (by omega) _) 1 (by omega) _) 5 (by omega) _) 6 (by omega) _⟩

end Go.Proofs.Ytdpocnkeokplpaa

namespace Go.Proofs.Ytdpocnkeokplpaa
open Go.RowKit Go.Hal
set_option linter.unusedVariables false
set_option linter.unusedSimpArgs false

/-- The window holds the last bytes that were told. -/
def Win (hist : List UInt8) (win : Nat → Value) : Prop := ∀ k b, hist[k]? = some b → hist.length ≤ k + 32768 → win (k % 32768) = byteV b
theorem win_tell {hist : List UInt8} {win : Nat → Value} (h : Win hist win) (c : UInt8) : Win (hist ++ [c]) (fun j => if j = hist.length % 32768 then byteV c else win j) := by
  intro k b hk hl
  rw [List.length_append, List.length_singleton] at hl
  by_cases h1 : k < hist.length
  · rw [List.getElem?_append_left h1] at hk
    have h2 : ¬ k % 32768 = hist.length % 32768 := by omega
    simp only [h2, if_false]
    exact h k b hk (by omega)
  · have hlt := (List.getElem?_eq_some_iff.1 hk).1
    rw [List.length_append, List.length_singleton] at hlt
    obtain rfl : k = hist.length := by omega
    simp only [if_true]
    rw [List.getElem?_append_right (Nat.le_refl _), Nat.sub_self] at hk
    cases hk
    rfl

/-- What one copy tells. -/
def copyH (far : Nat) : Nat → List UInt8 → List UInt8
  | 0, h => h
  | k + 1, h => copyH far k (h ++ [(h[h.length - far]?).getD 0])

set_option maxRecDepth 100000 in
set_option maxHeartbeats 4000000 in
theorem again_d {w : World} {d n0 : Nat} {limit : Int} {s : DS} {c : DC} {Rs : List Res} (hS : Sat w (decR d (headV s c) c.win (footV s.hist.length limit c.ov c.rv 0) :: sl 5 1 (s.hist.drop n0).length c.ov ((s.hist.drop n0).map byteV) :: Rs)) (hst : s.st = 11)
    (hw : Win s.hist c.win) (h1 : 1 ≤ s.far) (h2 : s.far ≤ s.hist.length) (h3 : s.far ≤ 32768) (hn0 : n0 ≤ s.hist.length) (hl : s.left ≤ 65535) (hh : s.hist.length ≤ 140737488000000) :
    Calls Try.prog 57 #[.pointer (some ⟨d, 0, none⟩)] w fun e' w' => e' = .returned (.bool true) ∧
      ((∃ hist, copyD limit s.left s = .bad hist 9 ∧ n0 ≤ hist.length ∧ ∃ h' win ov, Sat w' (decR d h' win (footV hist.length limit ov c.rv 9) :: sl 5 1 (hist.drop n0).length ov ((hist.drop n0).map byteV) :: Rs) ∧ ∃ k : Int, h'[1]? = some (.int .i64 k)) ∨
       ∃ t win ov, copyD limit s.left s = .go t ∧ n0 ≤ t.hist.length ∧ Win t.hist win ∧ Sat w' (decR d (headV t c) win (footV t.hist.length limit ov c.rv 0) :: sl 5 1 (t.hist.drop n0).length ov ((t.hist.drop n0).map byteV) :: Rs)) := by
  have q1 : w.cell? ⟨d, 1, none⟩ = some (.int .i64 11) := by have := (dec_h hS 1 _ rfl).1; rw [hst] at this; exact this
  go_enter Try.func57, Try.ntmps57
  go_wp2_with fail
  go_loopg [] (s.left + 2) (fun g wr => (∃ (j : Nat) (hist : List UInt8) (win : Nat → Value) (ov : Value), g + j = s.left + 2 ∧ j ≤ s.left ∧ Hid (copyD limit s.left s = copyD limit (s.left - j) { s with hist := hist }) ∧
      n0 ≤ hist.length ∧ s.far ≤ hist.length ∧ hist.length ≤ s.hist.length + j ∧ Win hist win ∧
      Sat wr (decR d (headV { s with left := s.left - j, hist := hist } c) win (footV hist.length limit ov c.rv 0) :: sl 5 1 (hist.drop n0).length ov ((hist.drop n0).map byteV) :: Rs)) ∨
    (∃ (hist : List UInt8) (k : Nat) (win : Nat → Value) (ov : Value), 1 ≤ g ∧ Hid (copyD limit s.left s = .bad hist 9) ∧ n0 ≤ hist.length ∧
      Sat wr (decR d (headV { s with left := k, hist := hist } c) win (footV hist.length limit ov c.rv 9) :: sl 5 1 (hist.drop n0).length ov ((hist.drop n0).map byteV) :: Rs)))
  case atStart => exact .inl ⟨0, s.hist, c.win, c.ov, by omega, by omega, Lib.hid rfl, hn0, h2, by omega, hw, hS⟩
  case round =>
    rcases hrel with ⟨j, hist, win, ov, hg, hj, HC, g1, g2, g3, g4, hS1⟩ | ⟨hist, k, win, ov, hg, HC, g1, hS1⟩
    · obtain ⟨m, Hm⟩ : ∃ m, Hid (s.left - j = m) := ⟨_, Lib.hid rfl⟩
      rw [Hm.out] at HC hS1
      have q3 : wr.cell? ⟨d, 3, none⟩ = some (.int .i64 m) := (dec_h hS1 3 _ rfl).1
      have f3 : wr.frozen? ⟨d, 3, none⟩ = false := (dec_h hS1 3 _ rfl).2
      have q4 : wr.cell? ⟨d, 4, none⟩ = some (.int .i64 s.far) := (dec_h hS1 4 _ rfl).1
      have q1 : wr.cell? ⟨d, 1, none⟩ = some (.int .i64 11) := by have := (dec_h hS1 1 _ rfl).1; rw [hst] at this; exact this
      have f1 : wr.frozen? ⟨d, 1, none⟩ = false := (dec_h hS1 1 _ rfl).2
      have t0 : wr.cell? ⟨d, 32781, none⟩ = some (.int .i64 hist.length) := (dec_t hS1 0 _ rfl).1
      have t4 : wr.cell? ⟨d, 32785, none⟩ = some (.int .i64 0) := (dec_t hS1 4 _ rfl).1
      cases m with
      | zero =>
        have H := Lib.hid (dec_set_h hS1 1 (by omega) (.int .i64 7))
        clear hS1 hS hw
        go_wp2
        go_ret
        exact ⟨rfl, .inr ⟨_, win, ov, HC.out, g1, g4, H.out⟩⟩
      | succ m =>
        have hd : decide (0 < m + 1) = true := decide_eq_true (by omega)
        obtain ⟨p, Hp⟩ : ∃ p, Hid (p = (hist.length - s.far) % 32768) := ⟨_, Lib.hid rfl⟩
        have hp : p < 32768 := by rw [Hp.out]; omega
        have hmod : ((hist.length : Int) - s.far) % 32768 = (p : Int) := by rw [Hp.out]; omega
        have hmodw : (IntKind.i64.wrap ((hist.length : Int) - s.far)).tmod 32768 = (p : Int) := by
          rw [i64_id ((hist.length : Int) - s.far) (by omega) (by omega), Int.tmod_eq_emod_of_nonneg (by omega)]; exact hmod
        have hb1 : hist.length ≤ 140737488200000 := by omega
        have hmodt : Int.tmod ((hist.length : Int) - s.far) 32768 = (p : Int) := by rw [Int.tmod_eq_emod_of_nonneg (by omega)]; exact hmod
        have hk : hist.length - s.far < hist.length := by omega
        obtain ⟨cb, Hcb⟩ : ∃ cb, Hid (hist[hist.length - s.far]? = some cb) := ⟨_, Lib.hid (List.getElem?_eq_getElem hk)⟩
        have qw : wr.cell? ⟨d, 13 + p, none⟩ = some (byteV cb) := by rw [(dec_w hS1 p hp).1, Hp.out, g4 _ cb Hcb.out (by omega)]
        have hC2 : copyD limit s.left s = tellD limit cb { s with hist := hist } (copyD limit m) := by
          rw [HC.out]
          show tellD limit ((hist[hist.length - s.far]?).getD 0) _ _ = _
          rw [Hcb.out]
          rfl
        unfold tellD at hC2
        unfold byteV at qw
        have hpI : (p : Int) < 32768 := by omega
        have hmI : (m : Int) < 65536 := by have := Hm.out; omega
        have hout : (hist.drop n0).length ≤ hist.length := by rw [List.length_drop]; omega
        have Hg : Hid (gk + j = s.left + 2 ∧ j ≤ s.left ∧ n0 ≤ hist.length ∧ s.far ≤ hist.length ∧ hist.length ≤ s.hist.length + j) := ⟨hg, hj, g1, g2, g3⟩
        have Hwin := Lib.hid (win_tell g4 cb)
        by_cases hlim : limit ≤ (hist.length : Int)
        · rw [if_pos hlim] at hC2
          have HC2 := Lib.hid hC2
          have Ht := Lib.hid (tell_no hS1.drew cb hlim)
          clear hS1 hS hw hC2 HC hk hlim hmod hmodt hp g1 g2 g3 g4 hn0 h1 h2 h3 hl hh hj hg hb1 hst hout
          unfold byteV at Ht
          go_wp2_with fail
          go_region_with (go_at_call 52; refine Ht.out.mono ?_; rintro e' w2 ⟨rfl, hS2⟩; have q3 : w2.cell? ⟨d, 3, none⟩ = some (.int .i64 ((m + 1 : Nat) : Int)) := (dec_h hS2 3 _ rfl).1; have f3 : w2.frozen? ⟨d, 3, none⟩ = false := (dec_h hS2 3 _ rfl).2)
          all_goals
            have H := Lib.hid (dec_set_h hS2 3 (by omega) (.int .i64 m))
            clear hS2
            go_wp2_with fail
            go_roundg (gk - 1)
            case measure => have := Hg.out; have := Hm.out; omega
            case rel => exact .inr ⟨hist, m, win, ov, by have := Hg.out; have := Hm.out; omega, HC2, Hg.out.2.2.1, H.out⟩
        · rw [if_neg hlim] at hC2
          have HC2 := Lib.hid hC2
          have Ht := Lib.hid (tell_yes hS1.drew cb (by omega) (by omega) hout)
          clear hS1 hS hw hC2 HC hk hlim hmod hmodt hp g1 g2 g3 g4 hn0 h1 h2 h3 hl hh hj hg hb1 hst hout
          unfold byteV at Ht Hwin
          go_wp2_with fail
          go_region_with (go_at_call 52; refine Ht.out.mono ?_; rintro e' w2 ⟨rfl, ov', hS2⟩; have q3 : w2.cell? ⟨d, 3, none⟩ = some (.int .i64 ((m + 1 : Nat) : Int)) := (dec_h hS2 3 _ rfl).1; have f3 : w2.frozen? ⟨d, 3, none⟩ = false := (dec_h hS2 3 _ rfl).2)
          all_goals
            have H := Lib.hid (dec_set_h hS2 3 (by omega) (.int .i64 m))
            clear hS2
            go_wp2_with fail
            go_roundg (gk - 1)
            case measure => have := Hg.out; have := Hm.out; omega
            case rel =>
              have e1 : s.left - (j + 1) = m := by have := Hg.out; have := Hm.out; omega
              refine .inl ⟨j + 1, hist ++ [cb], _, ov', by have := Hg.out; have := Hm.out; omega, by have := Hg.out; have := Hm.out; omega, ?_, ?_, ?_, ?_, Hwin.out, ?_⟩
              · rw [e1]; exact HC2
              · rw [List.length_append]; have := Hg.out; omega
              · rw [List.length_append]; have := Hg.out; omega
              · rw [List.length_append, List.length_singleton]; have := Hg.out; omega
              · rw [e1, List.length_append, List.length_singleton, List.drop_append_of_le_length Hg.out.2.2.1]
                exact H.out
    · have q3 : wr.cell? ⟨d, 3, none⟩ = some (.int .i64 k) := (dec_h hS1 3 _ rfl).1
      have q1 : wr.cell? ⟨d, 1, none⟩ = some (.int .i64 11) := by have := (dec_h hS1 1 _ rfl).1; rw [hst] at this; exact this
      have f1 : wr.frozen? ⟨d, 1, none⟩ = false := (dec_h hS1 1 _ rfl).2
      have t4 : wr.cell? ⟨d, 32785, none⟩ = some (.int .i64 9) := (dec_t hS1 4 _ rfl).1
      have H := Lib.hid (dec_set_h hS1 1 (by omega) (.int .i64 7))
      obtain ⟨b, hb⟩ : ∃ b, decide (0 < k) = b := ⟨_, rfl⟩
      clear hS1 hS hw
      cases b
      all_goals
        go_wp2
        go_ret
        exact ⟨rfl, .inl ⟨hist, HC.out, g1, _, _, _, H.out, _, rfl⟩⟩

end Go.Proofs.Ytdpocnkeokplpaa
