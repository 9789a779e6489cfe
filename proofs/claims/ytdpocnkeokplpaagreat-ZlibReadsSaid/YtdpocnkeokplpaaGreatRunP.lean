/- The document's inflate in plain words: how a Run ends, and the decoder's steps. -/
import Derived.Test.YtdpocnkeokplpaaGreatRunT
import Derived.Test.YtdpocnkeokplpaaGreatQh
namespace Go.Proofs.YtdpocnkeokplpaaGreat
open Go.RowKit Go.Hal
set_option linter.unusedVariables false
set_option linter.unusedSimpArgs false

def closedD (s : DS) : DS := if s.last then { s with st := 12, bits := s.bits.drop (s.bits.length % 8) } else { s with st := 0 }
theorem closeD_eq (s : DS) : closeD s = .go (closedD s) := rfl
/-- What comes behind an outcome. -/
def After (lim : Int) : DOut → DRes → Prop
  | .stop, _ => False
  | .bad h e, q => q = .bad h e
  | .go t, q => Runs lim t q
theorem runs_after {lim : Int} {s : DS} {o : DOut} {q : DRes} (h : dstep lim s = o) (ha : After lim o q) : Runs lim s q := by
  cases o with
  | stop => exact ha.elim
  | bad hist e => rw [show q = .bad hist e from ha]; exact .bad h
  | go t => exact .go h ha
theorem dstep_bits {lim : Int} {s : DS} : (dstep lim s).All fun t => t.bits.length ≤ s.bits.length := by
  have key : ∀ (n : Nat) (t : DS), t.bits = s.bits.drop n → t.bits.length ≤ s.bits.length := fun n t ht => by rw [ht, List.length_drop]; omega
  unfold dstep
  split
  · refine allD_take fun h => ?_
    unfold headD
    split
    · exact key 3 _ rfl
    · split
      · exact key 3 _ rfl
      · split
        · exact key 3 _ rfl
        · trivial
  · split
    · trivial
    · unfold sizeD
      refine allD_take fun _ => allD_take fun h => ?_
      split
      · show (((s.bits.drop (s.bits.length % 8)).drop 16).drop 16).length ≤ _
        simp only [List.length_drop]
        omega
      · trivial
  · unfold rawD
    split
    · exact all_close2 (key (s.bits.length % 8) _ rfl) (Nat.le_refl _)
    · exact allD_take fun h => allD_tell fun hl => key 8 _ rfl
  · refine allD_take fun h => ?_
    unfold countsD
    split
    · trivial
    · exact key 14 _ rfl
  · unfold codesD
    split
    · trivial
    · split
      · exact key (3 * s.left) _ rfl
      · trivial
  · unfold lensD
    split
    · generalize codeS (s.row.take s.lits) (some 256) = a
      generalize codeS (s.row.drop s.lits) none = b
      cases a <;> cases b
      · trivial
      · trivial
      · trivial
      · exact Nat.le_refl _
    · refine allD_word fun he => ?_
      split
      · exact all_lay2 (key _ _ rfl)
      · split
        · trivial
        · exact key _ _ rfl
  · exact allD_take fun h => all_lay2 (key _ _ rfl)
  · unfold symsD
    refine allD_word fun he => ?_
    split
    · exact allD_tell fun _ => key _ _ rfl
    · split
      · refine all_close2 ?_ (key _ _ rfl)
        simp only [List.length_drop]
        omega
      · split
        · trivial
        · generalize lenE _ = q
          exact key _ _ rfl
  · exact allD_take fun h => key _ _ rfl
  · unfold distD
    refine allD_word fun he => ?_
    split
    · trivial
    · exact key _ _ rfl
  · refine allD_take fun h => ?_
    split
    · trivial
    · exact key _ _ rfl
  · exact all_copy2 _ _ fun h => Nat.le_refl _
  · trivial
/-- From s0 on all goes as from s; no bits have come. -/
structure Reach (lim : Int) (s0 s : DS) : Prop where
  run : ∀ q, Runs lim s q → Runs lim s0 q
  bits : s.bits.length ≤ s0.bits.length
theorem Reach.refl (lim : Int) (s : DS) : Reach lim s s := ⟨fun _ h => h, Nat.le_refl _⟩
theorem Reach.step {lim : Int} {s0 s t : DS} (h : Reach lim s0 s) (hs : dstep lim s = .go t) : Reach lim s0 t := ⟨fun q hq => h.run q (.go hs hq), by
  have h1 := dstep_bits (lim := lim) (s := s)
  rw [hs] at h1
  exact Nat.le_trans h1 h.bits⟩
theorem Reach.trans {lim : Int} {s0 s t : DS} (h : Reach lim s0 s) (h2 : Reach lim s t) : Reach lim s0 t := ⟨fun q hq => h.run q (h2.run q hq), Nat.le_trans h2.bits h.bits⟩
theorem Reach.bad {lim : Int} {s0 s : DS} {hist : List UInt8} {e : Nat} (h : Reach lim s0 s) (hs : dstep lim s = .bad hist e) : Runs lim s0 (.bad hist e) := h.run _ (.bad hs)
theorem Reach.stop {lim : Int} {s0 s : DS} (h : Reach lim s0 s) (hs : dstep lim s = .stop) : Runs lim s0 (.ok s) := h.run _ (.stop hs)

/-- A block's end. -/
def Clo (lim : Int) (s0 : DS) (last : Bool) (r : RunS) : Prop := ∃ s, s.last = last ∧ s.bits = r.bits ∧ s.hist = r.out ∧ Reach lim s0 (closedD s)
def Ends (lim : Int) (s0 : DS) (last : Bool) (r : RunS) : Prop :=
  (r.e = 0 → Clo lim s0 last r) ∧ (r.e = 2 → ∃ t, Runs lim s0 (.ok t) ∧ t.hist = r.out ∧ t.st ≠ 12) ∧ (r.e ≠ 0 → r.e ≠ 2 → Runs lim s0 (.bad r.out r.e))
theorem Ends.bad {lim : Int} {s0 : DS} {last : Bool} {r : RunS} (h0 : r.e ≠ 0) (h2 : r.e ≠ 2) (h : Runs lim s0 (.bad r.out r.e)) : Ends lim s0 last r := ⟨fun h => absurd h h0, fun h => absurd h h2, fun _ _ => h⟩
theorem Ends.short {lim : Int} {s0 t : DS} {last : Bool} {r : RunS} (h2 : r.e = 2) (h : Runs lim s0 (.ok t)) (ht : t.hist = r.out) (hst : t.st ≠ 12) : Ends lim s0 last r :=
  ⟨fun h => by omega, fun _ => ⟨t, h, ht, hst⟩, fun _ h => absurd h2 h⟩
theorem Ends.done {lim : Int} {s0 : DS} {last : Bool} {r : RunS} (h0 : r.e = 0) (h : Clo lim s0 last r) : Ends lim s0 last r := ⟨fun _ => h, fun h => by omega, fun h => absurd h0 h⟩

/-- The decoder stands ahead of a symbol. -/
structure AtSym (lim : Int) (s0 : DS) (last : Bool) (A B : List Nat) (r : RunS) (s : DS) : Prop where
  st : s.st = 7
  last : s.last = last
  lit : s.lit = some A
  way : s.way = some B
  bits : s.bits = r.bits
  hist : s.hist = r.out
  reach : Reach lim s0 s
section
variable {lim : Int} {s0 s : DS} {last : Bool} {A B : List Nat} {r : RunS} {x e n : Nat}
theorem AtSym.err (h : AtSym lim s0 last A B r s) (hd : decL A r.bits = (x, e, n)) (he : e ≠ 0) : Ends lim s0 last { r with e := e, bits := r.bits.drop n } := by
  have hs : dstep lim s = if e = 2 then .stop else .bad s.hist e := by
    unfold dstep
    rw [h.st]
    show symsD lim s = _
    unfold symsD wordD
    rw [h.lit, h.bits]
    simp only [decO, hd, if_neg he]
  by_cases h2 : e = 2
  · rw [if_pos h2] at hs
    exact .short h2 (h.reach.stop hs) h.hist (by rw [h.st]; decide)
  · rw [if_neg h2, h.hist] at hs
    exact .bad he h2 (h.reach.bad hs)
theorem AtSym.step (h : AtSym lim s0 last A B r s) (hd : decL A r.bits = (x, 0, n)) :
    dstep lim s = (if x < 256 then tellD lim (UInt8.ofNat x) { s with bits := s.bits.drop n } .go else if x = 256 then closeD { s with bits := s.bits.drop n } else if 285 < x then .bad s.hist 6
      else .go { s with bits := s.bits.drop n, extra := (lenE (x - 257)).1, base := (lenE (x - 257)).2, st := 8 }) := by
  have e1 : dstep lim s = symsD lim s := by unfold dstep; rw [h.st]; rfl
  have e2 : decO s.lit s.bits = (x, 0, n) := by rw [h.lit, h.bits]; exact hd
  rw [e1]
  unfold symsD wordD
  simp only [e2, if_true]
theorem AtSym.tell_bad (h : AtSym lim s0 last A B r s) (hd : decL A r.bits = (x, 0, n)) (hx : x < 256) (hl : lim ≤ (r.out.length : Int)) : Ends lim s0 last { r with e := 9, bits := r.bits.drop n } := by
  have hs := h.step hd
  rw [if_pos hx, tellD, if_pos (show lim ≤ (s.hist.length : Int) by rw [h.hist]; exact hl)] at hs
  refine .bad (show (9 : Nat) ≠ 0 by omega) (show (9 : Nat) ≠ 2 by omega) ?_
  show Runs lim s0 (.bad r.out 9)
  rw [← h.hist]
  exact h.reach.bad hs
theorem AtSym.tell_ok (h : AtSym lim s0 last A B r s) (hd : decL A r.bits = (x, 0, n)) (hx : x < 256) (hl : ¬ lim ≤ (r.out.length : Int)) : ∃ t, AtSym lim s0 last A B { r with bits := r.bits.drop n, out := r.out ++ [UInt8.ofNat x] } t := by
  have hs := h.step hd
  rw [if_pos hx, tellD, if_neg (show ¬ lim ≤ (s.hist.length : Int) by rw [h.hist]; exact hl)] at hs
  refine ⟨_, ?_, ?_, ?_, ?_, ?_, ?_, h.reach.step hs⟩
  · exact h.st
  · exact h.last
  · exact h.lit
  · exact h.way
  · show s.bits.drop n = _; rw [h.bits]
  · show s.hist ++ _ = _; rw [h.hist]
theorem AtSym.close (h : AtSym lim s0 last A B r s) (hd : decL A r.bits = (256, 0, n)) (he : r.e = 0) : Ends lim s0 last { r with bits := r.bits.drop n } := by
  have hs := h.step hd
  rw [if_neg (by decide), if_pos rfl, closeD_eq] at hs
  refine .done he ⟨_, ?_, ?_, ?_, h.reach.step hs⟩
  · exact h.last
  · show s.bits.drop n = _; rw [h.bits]
  · exact h.hist
theorem AtSym.over (h : AtSym lim s0 last A B r s) (hd : decL A r.bits = (x, 0, n)) (hx : 285 < x) : Ends lim s0 last { r with e := 6, bits := r.bits.drop n } := by
  have hs := h.step hd
  rw [if_neg (by omega), if_neg (by omega), if_pos hx] at hs
  refine .bad (show (6 : Nat) ≠ 0 by omega) (show (6 : Nat) ≠ 2 by omega) ?_
  show Runs lim s0 (.bad r.out 6)
  rw [← h.hist]
  exact h.reach.bad hs
/-- .. behind a length's symbol. -/
structure AtMid (lim : Int) (s0 : DS) (last : Bool) (A B : List Nat) (st : Nat) (r : RunS) (s : DS) : Prop where
  st : s.st = st
  last : s.last = last
  lit : s.lit = some A
  way : s.way = some B
  bits : s.bits = r.bits
  hist : s.hist = r.out
  reach : Reach lim s0 s
theorem AtSym.len (h : AtSym lim s0 last A B r s) (hd : decL A r.bits = (x, 0, n)) (h1 : 256 < x) (h2 : x ≤ 285) : ∃ t, AtMid lim s0 last A B 8 { r with bits := r.bits.drop n } t ∧ t.extra = (lenE (x - 257)).1 ∧ t.base = (lenE (x - 257)).2 := by
  have hs := h.step hd
  rw [if_neg (by omega), if_neg (by omega), if_neg (by omega)] at hs
  generalize lenE (x - 257) = le at hs ⊢
  refine ⟨{ s with bits := s.bits.drop n, extra := le.1, base := le.2, st := 8 }, ⟨?_, ?_, ?_, ?_, ?_, ?_, h.reach.step hs⟩, rfl, rfl⟩
  · rfl
  · exact h.last
  · exact h.lit
  · exact h.way
  · show s.bits.drop n = _; rw [h.bits]
  · exact h.hist
theorem AtMid.take8 (h : AtMid lim s0 last A B 8 r s) (hl : r.bits.length < s.extra) : Ends lim s0 last { r with e := 2 } := by
  have hs : dstep lim s = .stop := by
    unfold dstep
    rw [h.st]
    show takeD s.extra s _ = _
    unfold takeD
    rw [h.bits, if_pos hl]
  exact .short rfl (h.reach.stop hs) h.hist (by rw [h.st]; decide)
theorem AtMid.to9 (h : AtMid lim s0 last A B 8 r s) (hl : s.extra ≤ r.bits.length) : ∃ t, AtMid lim s0 last A B 9 { r with bits := r.bits.drop s.extra } t ∧ t.left = s.base + num (r.bits.take s.extra) := by
  have e1 : dstep lim s = takeD s.extra s fun n s => .go { s with left := s.base + n, st := 9 } := by unfold dstep; rw [h.st]; rfl
  have hs : dstep lim s = .go { s with bits := s.bits.drop s.extra, left := s.base + num (s.bits.take s.extra), st := 9 } := by
    rw [e1]
    unfold takeD
    rw [if_neg (by rw [h.bits]; omega)]
  refine ⟨_, ⟨?_, ?_, ?_, ?_, ?_, ?_, h.reach.step hs⟩, ?_⟩
  · rfl
  · exact h.last
  · exact h.lit
  · exact h.way
  · show s.bits.drop _ = _; rw [h.bits]
  · exact h.hist
  · show s.base + num (s.bits.take _) = _; rw [h.bits]
theorem AtMid.step9 (h : AtMid lim s0 last A B 9 r s) (hd : decL B r.bits = (x, e, n)) :
    dstep lim s = if e = 0 then (if 29 < x then .bad s.hist 6 else .go { s with bits := s.bits.drop n, extra := (disE x).1, base := (disE x).2, st := 10 }) else if e = 2 then .stop else .bad s.hist e := by
  have e1 : dstep lim s = distD s := by unfold dstep; rw [h.st]; rfl
  have e2 : decO s.way s.bits = (x, e, n) := by rw [h.way, h.bits]; exact hd
  rw [e1]
  unfold distD wordD
  simp only [e2]
theorem AtMid.err9 (h : AtMid lim s0 last A B 9 r s) (hd : decL B r.bits = (x, e, n)) (he : e ≠ 0) : Ends lim s0 last { r with e := e, bits := r.bits.drop n } := by
  have hs := h.step9 hd
  rw [if_neg he] at hs
  by_cases h2 : e = 2
  · rw [if_pos h2] at hs
    exact .short h2 (h.reach.stop hs) h.hist (by rw [h.st]; decide)
  · rw [if_neg h2, h.hist] at hs
    exact .bad he h2 (h.reach.bad hs)
theorem AtMid.over9 (h : AtMid lim s0 last A B 9 r s) (hd : decL B r.bits = (x, 0, n)) (hx : 29 < x) : Ends lim s0 last { r with e := 6, bits := r.bits.drop n } := by
  have hs := h.step9 hd
  rw [if_pos rfl, if_pos hx, h.hist] at hs
  exact .bad (show (6 : Nat) ≠ 0 by omega) (show (6 : Nat) ≠ 2 by omega) (h.reach.bad hs)
theorem AtMid.to10 (h : AtMid lim s0 last A B 9 r s) (hd : decL B r.bits = (x, 0, n)) (hx : ¬ 29 < x) : ∃ t, AtMid lim s0 last A B 10 { r with bits := r.bits.drop n } t ∧ t.extra = (disE x).1 ∧ t.base = (disE x).2 ∧ t.left = s.left := by
  have hs := h.step9 hd
  rw [if_pos rfl, if_neg hx] at hs
  refine ⟨_, ⟨?_, ?_, ?_, ?_, ?_, ?_, h.reach.step hs⟩, rfl, rfl, rfl⟩
  · rfl
  · exact h.last
  · exact h.lit
  · exact h.way
  · show s.bits.drop _ = _; rw [h.bits]
  · exact h.hist
theorem AtMid.step10 (h : AtMid lim s0 last A B 10 r s) : dstep lim s = if r.bits.length < s.extra then .stop else if r.out.length < s.base + num (r.bits.take s.extra) then .bad r.out 7 else .go { s with bits := s.bits.drop s.extra, far := s.base + num (s.bits.take s.extra), st := 11 } := by
  have e1 : dstep lim s = takeD s.extra s fun n s => if s.hist.length < s.base + n then .bad s.hist 7 else .go { s with far := s.base + n, st := 11 } := by unfold dstep; rw [h.st]; rfl
  rw [e1]
  unfold takeD
  rw [← h.bits, ← h.hist]
theorem AtMid.take10 (h : AtMid lim s0 last A B 10 r s) (hl : r.bits.length < s.extra) : Ends lim s0 last { r with e := 2 } := by
  have hs := h.step10
  rw [if_pos hl] at hs
  exact .short rfl (h.reach.stop hs) h.hist (by rw [h.st]; decide)
theorem AtMid.far10 (h : AtMid lim s0 last A B 10 r s) (hl : s.extra ≤ r.bits.length) (hf : r.out.length < s.base + num (r.bits.take s.extra)) : Ends lim s0 last { r with e := 7, bits := r.bits.drop s.extra } := by
  have hs := h.step10
  rw [if_neg (by omega), if_pos hf] at hs
  exact .bad (show (7 : Nat) ≠ 0 by omega) (show (7 : Nat) ≠ 2 by omega) (h.reach.bad hs)
/-- .. in a copy of k bytes more. -/
structure AtCopy (lim : Int) (s0 : DS) (last : Bool) (A B : List Nat) (far k : Nat) (r : RunS) (s : DS) : Prop where
  last : s.last = last
  lit : s.lit = some A
  way : s.way = some B
  far : s.far = far
  bits : s.bits = r.bits
  hist : s.hist = r.out
  reach : ∀ q, After lim (copyD lim k s) q → Runs lim s0 q
  less : s.bits.length ≤ s0.bits.length
theorem AtMid.copy (h : AtMid lim s0 last A B 10 r s) (hl : s.extra ≤ r.bits.length) (hf : ¬ r.out.length < s.base + num (r.bits.take s.extra)) :
    ∃ t, AtCopy lim s0 last A B (s.base + num (r.bits.take s.extra)) s.left { r with bits := r.bits.drop s.extra } t := by
  have hs := h.step10
  rw [if_neg (by omega), if_neg hf] at hs
  refine ⟨{ s with bits := s.bits.drop s.extra, far := s.base + num (s.bits.take s.extra), st := 11 }, ?_, ?_, ?_, ?_, ?_, ?_, fun q hq => (h.reach.step hs).run q (runs_after rfl hq), (h.reach.step hs).bits⟩
  · exact h.last
  · exact h.lit
  · exact h.way
  · show s.base + num (s.bits.take _) = _; rw [h.bits]
  · show s.bits.drop _ = _; rw [h.bits]
  · exact h.hist
theorem AtCopy.zero {far : Nat} (h : AtCopy lim s0 last A B far 0 r s) : ∃ t, AtSym lim s0 last A B r t :=
  ⟨{ s with st := 7, left := 0 }, rfl, h.last, h.lit, h.way, h.bits, h.hist, ⟨fun q hq => h.reach q hq, h.less⟩⟩
theorem AtCopy.bad {far k : Nat} (h : AtCopy lim s0 last A B far (k + 1) r s) (hl : lim ≤ (r.out.length : Int)) : Ends lim s0 last { r with e := 9 } := by
  refine .bad (show (9 : Nat) ≠ 0 by omega) (show (9 : Nat) ≠ 2 by omega) (h.reach _ ?_)
  show After lim (tellD lim _ s (copyD lim k)) _
  rw [tellD, if_pos (show lim ≤ (s.hist.length : Int) by rw [h.hist]; exact hl), h.hist]
  rfl
theorem AtCopy.ok {far k : Nat} (h : AtCopy lim s0 last A B far (k + 1) r s) (hl : ¬ lim ≤ (r.out.length : Int)) : ∃ t, AtCopy lim s0 last A B far k { r with out := r.out ++ [(r.out[r.out.length - far]?).getD 0] } t := by
  refine ⟨{ s with hist := s.hist ++ [(s.hist[s.hist.length - s.far]?).getD 0] }, h.last, h.lit, h.way, h.far, h.bits, ?_, fun q hq => h.reach q ?_, h.less⟩
  · show s.hist ++ _ = _
    rw [h.hist, h.far]
  · show After lim (tellD lim _ s (copyD lim k)) _
    rw [tellD, if_neg (show ¬ lim ≤ (s.hist.length : Int) by rw [h.hist]; exact hl)]
    exact hq

/-- .. in a stored block. -/
theorem raw_at {k : Nat} (h1 : s.st = 2) (h2 : s.left = k) :
    dstep lim s = if k = 0 then closeD s else if s.bits.length < 8 then .stop else if lim ≤ (s.hist.length : Int) then .bad s.hist 9 else .go { s with bits := s.bits.drop 8, hist := s.hist ++ [UInt8.ofNat (num (s.bits.take 8))], left := k - 1 } := by
  have e1 : dstep lim s = rawD lim s := by unfold dstep; rw [h1]; rfl
  rw [e1]
  unfold rawD takeD tellD
  subst h2
  rfl
structure AtRaw (lim : Int) (s0 : DS) (last : Bool) (k : Nat) (r : RunS) (s : DS) : Prop where
  st : s.st = 2
  last : s.last = last
  left : s.left = k
  bits : s.bits = r.bits
  hist : s.hist = r.out
  reach : Reach lim s0 s
theorem AtRaw.close (h : AtRaw lim s0 last 0 r s) (he : r.e = 0) : Ends lim s0 last r := by
  have hs := raw_at (lim := lim) h.st h.left
  rw [if_pos rfl, closeD_eq] at hs
  exact .done he ⟨s, h.last, h.bits, h.hist, h.reach.step hs⟩
theorem AtRaw.short {k : Nat} (h : AtRaw lim s0 last (k + 1) r s) (hl : r.bits.length < 8) : Ends lim s0 last { r with e := 2 } := by
  have hs := raw_at (lim := lim) h.st h.left
  rw [if_neg (by omega), if_pos (by rw [h.bits]; exact hl)] at hs
  exact .short rfl (h.reach.stop hs) h.hist (by rw [h.st]; decide)
theorem AtRaw.bad {k : Nat} (h : AtRaw lim s0 last (k + 1) r s) (hl : 8 ≤ r.bits.length) (ht : lim ≤ (r.out.length : Int)) : Ends lim s0 last { r with e := 9, bits := r.bits.drop 8 } := by
  have hs := raw_at (lim := lim) h.st h.left
  rw [if_neg (by omega), if_neg (by rw [h.bits]; omega), if_pos (by rw [h.hist]; exact ht), h.hist] at hs
  exact .bad (show (9 : Nat) ≠ 0 by omega) (show (9 : Nat) ≠ 2 by omega) (h.reach.bad hs)
theorem AtRaw.next {k : Nat} (h : AtRaw lim s0 last (k + 1) r s) (hl : 8 ≤ r.bits.length) (ht : ¬ lim ≤ (r.out.length : Int)) : ∃ t, AtRaw lim s0 last k { r with bits := r.bits.drop 8, out := r.out ++ [UInt8.ofNat (num (r.bits.take 8))] } t := by
  have hs := raw_at (lim := lim) h.st h.left
  rw [if_neg (by omega), if_neg (by rw [h.bits]; omega), if_neg (by rw [h.hist]; exact ht)] at hs
  refine ⟨_, ?_, ?_, ?_, ?_, ?_, h.reach.step hs⟩
  · exact h.st
  · exact h.last
  · rfl
  · show s.bits.drop 8 = _; rw [h.bits]
  · show s.hist ++ _ = _; rw [h.hist, h.bits]
theorem size_at (h1 : s.st = 1) : dstep lim s = if s.bits.length / 8 < 4 then .stop else sizeD { s with bits := s.bits.drop (s.bits.length % 8) } := by
  unfold dstep
  rw [h1]
  rfl
theorem size_short (h1 : s.st = 1) (hb : s.bits = r.bits) (hh : s.hist = r.out) (hr : Reach lim s0 s) (hl : r.bits.length < r.bits.length % 8 + 32) : Ends lim s0 last { r with e := 2 } := by
  have hs := size_at (lim := lim) h1
  rw [if_pos (by rw [hb]; omega)] at hs
  exact .short rfl (hr.stop hs) hh (by rw [h1]; decide)
theorem size_go (h1 : s.st = 1) (hla : s.last = last) (hb : s.bits = r.bits) (hh : s.hist = r.out) (hr : Reach lim s0 s) (hl : ¬ r.bits.length < r.bits.length % 8 + 32) (l : List Bool) (hlb : l = r.bits.drop (r.bits.length % 8)) :
    (num (l.take 16) ^^^ num ((l.drop 16).take 16) ≠ 65535 → Ends lim s0 last { r with e := 8, bits := (l.drop 16).drop 16 }) ∧
    (num (l.take 16) ^^^ num ((l.drop 16).take 16) = 65535 → ∃ t, AtRaw lim s0 last (num (l.take 16)) { r with bits := (l.drop 16).drop 16 } t) := by
  have hs := size_at (lim := lim) h1
  have hll : 32 ≤ l.length := by rw [hlb, List.length_drop]; omega
  rw [if_neg (by rw [hb]; omega), hb, ← hlb] at hs
  simp only [sizeD, takeD, if_neg (by omega : ¬ l.length < 16), if_neg (show ¬ (l.drop 16).length < 16 by rw [List.length_drop]; omega)] at hs
  constructor
  · intro hx
    rw [if_neg hx, hh] at hs
    exact .bad (show (8 : Nat) ≠ 0 by omega) (show (8 : Nat) ≠ 2 by omega) (hr.bad hs)
  · intro hx
    rw [if_pos hx] at hs
    refine ⟨_, ?_, ?_, ?_, ?_, ?_, hr.step hs⟩
    · rfl
    · exact hla
    · rfl
    · rfl
    · exact hh
end

end Go.Proofs.YtdpocnkeokplpaaGreat
