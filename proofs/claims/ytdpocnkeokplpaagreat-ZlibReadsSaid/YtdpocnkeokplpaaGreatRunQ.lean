/- The document's inflate in plain words: a block that tells its codes. -/
import Derived.Test.YtdpocnkeokplpaaGreatRunP
namespace Go.Proofs.YtdpocnkeokplpaaGreat
open Go.RowKit Go.Hal
set_option linter.unusedVariables false
set_option linter.unusedSimpArgs false

section
variable {lim : Int} {s0 s : DS} {last : Bool} {r : RunS} {x e n : Nat}
theorem dst3 (h : s.st = 3) : dstep lim s = takeD 14 s countsD := by unfold dstep; rw [h]; rfl
theorem dst4 (h : s.st = 4) : dstep lim s = codesD s := by unfold dstep; rw [h]; rfl
theorem dst5 (h : s.st = 5) : dstep lim s = lensD s := by unfold dstep; rw [h]; rfl
theorem dst6 (h : s.st = 6) : dstep lim s = takeD s.extra s fun n s => layD s.left (s.base + n) s := by unfold dstep; rw [h]; rfl

theorem cnt_short (h1 : s.st = 3) (hb : s.bits = r.bits) (hh : s.hist = r.out) (hr : Reach lim s0 s) (hl : r.bits.length < 14) : Ends lim s0 last { r with e := 2 } := by
  have hs := dst3 (lim := lim) h1
  unfold takeD at hs
  rw [if_pos (by rw [hb]; exact hl)] at hs
  exact .short rfl (hr.stop hs) hh (by rw [h1]; decide)
theorem cnt_bad (h1 : s.st = 3) (hb : s.bits = r.bits) (hh : s.hist = r.out) (hr : Reach lim s0 s) (hl : 14 ≤ r.bits.length) (hx : 286 < num (r.bits.take 14) % 32 + 257 ∨ 30 < num (r.bits.take 14) / 32 % 32 + 1) : Ends lim s0 last { r with e := 5, bits := r.bits.drop 14 } := by
  have hs := dst3 (lim := lim) h1
  unfold takeD at hs
  rw [if_neg (by rw [hb]; omega)] at hs
  unfold countsD at hs
  rw [if_pos (by rw [hb]; exact hx)] at hs
  refine .bad (show (5 : Nat) ≠ 0 by omega) (show (5 : Nat) ≠ 2 by omega) ?_
  show Runs lim s0 (.bad r.out 5)
  rw [← hh]
  exact hr.bad hs
structure AtCodes (lim : Int) (s0 : DS) (last : Bool) (lits dists k : Nat) (r : RunS) (s : DS) : Prop where
  st : s.st = 4
  last : s.last = last
  lits : s.lits = lits
  dists : s.dists = dists
  left : s.left = k
  bits : s.bits = r.bits
  hist : s.hist = r.out
  reach : Reach lim s0 s
theorem cnt_go (h1 : s.st = 3) (hla : s.last = last) (hb : s.bits = r.bits) (hh : s.hist = r.out) (hr : Reach lim s0 s) (hl : 14 ≤ r.bits.length) (hx : ¬ (286 < num (r.bits.take 14) % 32 + 257 ∨ 30 < num (r.bits.take 14) / 32 % 32 + 1)) :
    ∃ t, AtCodes lim s0 last (num (r.bits.take 14) % 32 + 257) (num (r.bits.take 14) / 32 % 32 + 1) (num (r.bits.take 14) / 1024 + 4) { r with bits := r.bits.drop 14 } t := by
  have hs := dst3 (lim := lim) h1
  unfold takeD at hs
  rw [if_neg (by rw [hb]; omega)] at hs
  unfold countsD at hs
  rw [if_neg (by rw [hb]; exact hx)] at hs
  refine ⟨_, ?_, ?_, ?_, ?_, ?_, ?_, ?_, hr.step hs⟩
  · rfl
  · exact hla
  · show num (s.bits.take 14) % 32 + 257 = _; rw [hb]
  · show num (s.bits.take 14) / 32 % 32 + 1 = _; rw [hb]
  · show num (s.bits.take 14) / 1024 + 4 = _; rw [hb]
  · show s.bits.drop 14 = _; rw [hb]
  · exact hh
theorem AtCodes.short {lits dists k : Nat} (h : AtCodes lim s0 last lits dists k r s) (hl : r.bits.length < 3 * k) : Ends lim s0 last { r with e := 2 } := by
  have hs := dst4 (lim := lim) h.st
  unfold codesD at hs
  rw [if_pos (by rw [h.bits, h.left]; exact hl)] at hs
  exact .short rfl (h.reach.stop hs) h.hist (by rw [h.st]; decide)
theorem AtCodes.bad {lits dists k : Nat} (h : AtCodes lim s0 last lits dists k r s) (hl : 3 * k ≤ r.bits.length) (hx : ¬ (checkI (natsV (lens19 k r.bits)) = 0 ∧ ∃ x ∈ lens19 k r.bits, 0 < x)) (b : List Bool) : Ends lim s0 last { r with e := 5, bits := b } := by
  have hs := dst4 (lim := lim) h.st
  unfold codesD at hs
  rw [if_neg (by rw [h.bits, h.left]; omega), if_neg (by rw [h.bits, h.left]; exact hx), h.hist] at hs
  exact .bad (show (5 : Nat) ≠ 0 by omega) (show (5 : Nat) ≠ 2 by omega) (h.reach.bad hs)
structure AtLens (lim : Int) (s0 : DS) (last : Bool) (F : List Nat) (lits dists : Nat) (row : List Nat) (r : RunS) (s : DS) : Prop where
  st : s.st = 5
  last : s.last = last
  first : s.first = some F
  lits : s.lits = lits
  dists : s.dists = dists
  row : s.row = row
  bits : s.bits = r.bits
  hist : s.hist = r.out
  reach : Reach lim s0 s
theorem AtCodes.go {lits dists k : Nat} (h : AtCodes lim s0 last lits dists k r s) (hl : 3 * k ≤ r.bits.length) (hx : checkI (natsV (lens19 k r.bits)) = 0 ∧ ∃ x ∈ lens19 k r.bits, 0 < x) :
    ∃ t, AtLens lim s0 last (lens19 k r.bits) lits dists [] { r with bits := r.bits.drop (3 * k) } t := by
  have hs := dst4 (lim := lim) h.st
  unfold codesD at hs
  rw [if_neg (by rw [h.bits, h.left]; omega), if_pos (by rw [h.bits, h.left]; exact hx)] at hs
  refine ⟨_, ?_, ?_, ?_, ?_, ?_, ?_, ?_, ?_, h.reach.step hs⟩
  · rfl
  · exact h.last
  · show some (lens19 s.left s.bits) = _; rw [h.bits, h.left]
  · exact h.lits
  · exact h.dists
  · rfl
  · show s.bits.drop (3 * s.left) = _; rw [h.bits, h.left]
  · exact h.hist
variable {F : List Nat} {lits dists : Nat} {row : List Nat}
theorem AtLens.step (h : AtLens lim s0 last F lits dists row r s) (hr : row.length < lits + dists) (hd : decL F r.bits = (x, e, n)) :
    dstep lim s = if e = 0 then (if x < 16 then layD x 1 { s with bits := s.bits.drop n } else if x = 16 ∧ row.length = 0 then .bad r.out 5
      else .go { s with bits := s.bits.drop n, left := if x = 16 then row.getLastD 0 else 0, extra := ([2, 3, 7][x - 16]?).getD 0, base := ([3, 3, 11][x - 16]?).getD 0, st := 6 }) else if e = 2 then .stop else .bad r.out e := by
  have e2 : decO s.first s.bits = (x, e, n) := by rw [h.first, h.bits]; exact hd
  rw [dst5 h.st]
  unfold lensD
  rw [if_neg (by rw [h.row, h.lits, h.dists]; omega)]
  unfold wordD
  simp only [e2, h.row, h.hist]
theorem AtLens.err (h : AtLens lim s0 last F lits dists row r s) (hr : row.length < lits + dists) (hd : decL F r.bits = (x, e, n)) (he : e ≠ 0) : Ends lim s0 last { r with e := e, bits := r.bits.drop n } := by
  have hs := h.step hr hd
  rw [if_neg he] at hs
  by_cases h2 : e = 2
  · rw [if_pos h2] at hs
    exact .short h2 (h.reach.stop hs) h.hist (by rw [h.st]; decide)
  · rw [if_neg h2] at hs
    exact .bad he h2 (h.reach.bad hs)
theorem AtLens.one (h : AtLens lim s0 last F lits dists row r s) (hr : row.length < lits + dists) (hd : decL F r.bits = (x, 0, n)) (hx : x < 16) : ∃ t, AtLens lim s0 last F lits dists (row ++ [x]) { r with bits := r.bits.drop n } t := by
  have hs := h.step hr hd
  rw [if_pos rfl, if_pos hx] at hs
  unfold layD at hs
  rw [if_neg (show ¬ s.lits + s.dists < s.row.length + 1 by rw [h.row, h.lits, h.dists]; omega)] at hs
  refine ⟨_, ?_, ?_, ?_, ?_, ?_, ?_, ?_, ?_, h.reach.step hs⟩
  · rfl
  · exact h.last
  · exact h.first
  · exact h.lits
  · exact h.dists
  · show s.row ++ _ = _; rw [h.row]; rfl
  · show s.bits.drop n = _; rw [h.bits]
  · exact h.hist
theorem AtLens.empty (h : AtLens lim s0 last F lits dists row r s) (hr : row.length < lits + dists) (hd : decL F r.bits = (16, 0, n)) (hz : row.length = 0) : Ends lim s0 last { r with e := 5, bits := r.bits.drop n } := by
  have hs := h.step hr hd
  rw [if_pos rfl, if_neg (by decide), if_pos ⟨rfl, hz⟩] at hs
  exact .bad (show (5 : Nat) ≠ 0 by omega) (show (5 : Nat) ≠ 2 by omega) (h.reach.bad hs)
structure AtMore (lim : Int) (s0 : DS) (last : Bool) (F : List Nat) (lits dists : Nat) (row : List Nat) (v ex ba : Nat) (r : RunS) (s : DS) : Prop where
  st : s.st = 6
  last : s.last = last
  first : s.first = some F
  lits : s.lits = lits
  dists : s.dists = dists
  row : s.row = row
  left : s.left = v
  extra : s.extra = ex
  base : s.base = ba
  bits : s.bits = r.bits
  hist : s.hist = r.out
  reach : Reach lim s0 s
theorem AtLens.more (h : AtLens lim s0 last F lits dists row r s) (hr : row.length < lits + dists) (hd : decL F r.bits = (x, 0, n)) (hx : 16 ≤ x) (hz : ¬ (x = 16 ∧ row.length = 0)) :
    ∃ t, AtMore lim s0 last F lits dists row (if x = 16 then row.getLastD 0 else 0) (([2, 3, 7][x - 16]?).getD 0) (([3, 3, 11][x - 16]?).getD 0) { r with bits := r.bits.drop n } t := by
  have hs := h.step hr hd
  rw [if_pos rfl, if_neg (by omega), if_neg hz] at hs
  generalize (if x = 16 then row.getLastD 0 else 0) = g1 at hs ⊢
  generalize ([2, 3, 7][x - 16]?).getD 0 = g2 at hs ⊢
  generalize ([3, 3, 11][x - 16]?).getD 0 = g3 at hs ⊢
  refine ⟨_, ?_, ?_, ?_, ?_, ?_, ?_, ?_, ?_, ?_, ?_, ?_, h.reach.step hs⟩
  · rfl
  · exact h.last
  · exact h.first
  · exact h.lits
  · exact h.dists
  · exact h.row
  · rfl
  · rfl
  · rfl
  · show s.bits.drop n = _; rw [h.bits]
  · exact h.hist
variable {v ex ba : Nat}
theorem AtMore.short (h : AtMore lim s0 last F lits dists row v ex ba r s) (hl : r.bits.length < ex) : Ends lim s0 last { r with e := 2 } := by
  have hs := dst6 (lim := lim) h.st
  unfold takeD at hs
  rw [if_pos (by rw [h.bits, h.extra]; exact hl)] at hs
  exact .short rfl (h.reach.stop hs) h.hist (by rw [h.st]; decide)
theorem AtMore.step (h : AtMore lim s0 last F lits dists row v ex ba r s) (hl : ex ≤ r.bits.length) :
    dstep lim s = if lits + dists < row.length + (ba + num (r.bits.take ex)) then .bad r.out 5 else .go { s with bits := s.bits.drop s.extra, row := s.row ++ List.replicate (s.base + num (s.bits.take s.extra)) s.left, st := 5 } := by
  rw [dst6 h.st]
  unfold takeD
  rw [if_neg (by rw [h.bits, h.extra]; omega)]
  unfold layD
  simp only [h.lits, h.dists, h.row, h.base, h.bits, h.extra, h.hist]
theorem AtMore.over (h : AtMore lim s0 last F lits dists row v ex ba r s) (hl : ex ≤ r.bits.length) (ho : lits + dists < row.length + (ba + num (r.bits.take ex))) : Ends lim s0 last { r with e := 5, bits := r.bits.drop ex } := by
  have hs := h.step hl
  rw [if_pos ho] at hs
  exact .bad (show (5 : Nat) ≠ 0 by omega) (show (5 : Nat) ≠ 2 by omega) (h.reach.bad hs)
theorem AtMore.lay (h : AtMore lim s0 last F lits dists row v ex ba r s) (hl : ex ≤ r.bits.length) (ho : ¬ lits + dists < row.length + (ba + num (r.bits.take ex))) :
    ∃ t, AtLens lim s0 last F lits dists (row ++ List.replicate (ba + num (r.bits.take ex)) v) { r with bits := r.bits.drop ex } t := by
  have hs := h.step hl
  rw [if_neg ho] at hs
  refine ⟨_, ?_, ?_, ?_, ?_, ?_, ?_, ?_, ?_, h.reach.step hs⟩
  · rfl
  · exact h.last
  · exact h.first
  · exact h.lits
  · exact h.dists
  · show s.row ++ List.replicate (s.base + num (s.bits.take s.extra)) s.left = _
    rw [h.row, h.base, h.bits, h.extra, h.left]
  · show s.bits.drop s.extra = _; rw [h.bits, h.extra]
  · exact h.hist
/-- Whether the lengths make two codes. -/
def TwoOk (lits : Nat) (row : List Nat) : Prop := (checkI (natsV (row.take lits)) = 0 ∧ 0 < ((row.take lits)[256]?).getD 0) ∧ checkI (natsV (row.drop lits)) = 0
theorem AtLens.fullD (h : AtLens lim s0 last F lits dists row r s) (hr : row.length = lits + dists) (he : r.e = 0) : (TwoOk lits row → ∃ t, AtSym lim s0 last (row.take lits) (row.drop lits) r t) ∧ (¬ TwoOk lits row → Ends lim s0 last { r with e := 5 }) := by
  have hs := dst5 (lim := lim) h.st
  unfold lensD at hs
  rw [if_pos (by rw [h.row, h.lits, h.dists]; exact hr), h.row, h.lits] at hs
  constructor
  · rintro ⟨⟨h1, h2⟩, h3⟩
    have e1 : codeS (row.take lits) (some 256) = some (row.take lits) := if_pos ⟨h1, fun k hk => by cases hk; exact h2⟩
    have e2 : codeS (row.drop lits) none = some (row.drop lits) := if_pos ⟨h3, fun k hk => by cases hk⟩
    rw [e1, e2] at hs
    refine ⟨_, ?_, ?_, ?_, ?_, ?_, ?_, h.reach.step hs⟩
    · rfl
    · exact h.last
    · rfl
    · rfl
    · exact h.bits
    · exact h.hist
  · intro hn
    have hb : dstep lim s = .bad r.out 5 := by
      rw [hs, ← h.hist]
      by_cases c1 : checkI (natsV (row.take lits)) = 0 ∧ 0 < ((row.take lits)[256]?).getD 0
      · have c3 : ¬ checkI (natsV (row.drop lits)) = 0 := fun c => hn ⟨c1, c⟩
        have e2 : codeS (row.drop lits) none = none := if_neg (fun c => c3 c.1)
        rw [e2]
        cases codeS (row.take lits) (some 256) <;> rfl
      · have e1 : codeS (row.take lits) (some 256) = none := if_neg (fun c => c1 ⟨c.1, c.2 256 rfl⟩)
        rw [e1]
        rfl
    exact .bad (show (5 : Nat) ≠ 0 by omega) (show (5 : Nat) ≠ 2 by omega) (h.reach.bad hb)
end

end Go.Proofs.YtdpocnkeokplpaaGreat
