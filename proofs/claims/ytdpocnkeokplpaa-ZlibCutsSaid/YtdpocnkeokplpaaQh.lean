/- inflate in plain words: one step, and what more bytes change: nothing. inflate in plain words: what is kept, and whole runs. inflate in plain words: steps come to an end, and only tell more. inflate in plain words: runs behind one another. inflate in plain words: the calls whose answers are fixed. inflate in plain words: not more than the limit is told. -/
import Derived.Test.YtdpocnkeokplpaaQg
namespace Go.Proofs.Ytdpocnkeokplpaa
open Go.RowKit Go.Hal
set_option linter.unusedVariables false
set_option linter.unusedSimpArgs false

/-- What a code that may be nil reads. -/
def decO (o : Option (List Nat)) (l : List Bool) : Nat × Nat × Nat := match o with
  | none => (0, if l.length = 0 then 2 else 6, 0)
  | some L => decL L l

structure DS where
  st : Nat
  last : Bool
  left : Nat
  far : Nat
  extra : Nat
  base : Nat
  lits : Nat
  dists : Nat
  row : List Nat
  first : Option (List Nat)
  lit : Option (List Nat)
  way : Option (List Nat)
  hist : List UInt8
  bits : List Bool
inductive DOut where
  | stop
  | bad (hist : List UInt8) (e : Nat)
  | go (s : DS)

def takeD (n : Nat) (s : DS) (k : Nat → DS → DOut) : DOut := if s.bits.length < n then .stop else k (num (s.bits.take n)) { s with bits := s.bits.drop n }
def wordD (o : Option (List Nat)) (s : DS) (k : Nat → DS → DOut) : DOut :=
  if (decO o s.bits).2.1 = 0 then k (decO o s.bits).1 { s with bits := s.bits.drop (decO o s.bits).2.2 } else if (decO o s.bits).2.1 = 2 then .stop else .bad s.hist (decO o s.bits).2.1
def tellD (lim : Int) (c : UInt8) (s : DS) (k : DS → DOut) : DOut := if lim ≤ (s.hist.length : Int) then .bad s.hist 9 else k { s with hist := s.hist ++ [c] }
def closeD (s : DS) : DOut := .go (if s.last then { s with st := 12, bits := s.bits.drop (s.bits.length % 8) } else { s with st := 0 })
def layD (v n : Nat) (s : DS) : DOut := if s.lits + s.dists < s.row.length + n then .bad s.hist 5 else .go { s with row := s.row ++ List.replicate n v, st := 5 }
def codeS (L : List Nat) (sym : Option Nat) : Option (List Nat) := if checkI (natsV L) = 0 ∧ (∀ k, sym = some k → 0 < (L[k]?).getD 0) then some L else none
def fixL : List Nat := List.replicate 144 8 ++ List.replicate 112 9 ++ List.replicate 24 7 ++ List.replicate 8 8
def fixD : List Nat := List.replicate 32 5
def ord19 : List Nat := [16, 17, 18, 0, 8, 7, 9, 6, 10, 5, 11, 4, 12, 3, 13, 2, 14, 1, 15]
def lens19 (k : Nat) (l : List Bool) : List Nat := (List.range 19).map fun s => if ord19.idxOf s < k then num ((l.drop (3 * ord19.idxOf s)).take 3) else 0
def lenE (s : Nat) : Nat × Nat := if s = 28 then (0, 258) else if 7 < s then (s / 4 - 1, (4 + s % 4) * 2 ^ (s / 4 - 1) + 3) else (0, s + 3)
def disE (t : Nat) : Nat × Nat := if 3 < t then (t / 2 - 1, (2 + t % 2) * 2 ^ (t / 2 - 1) + 1) else (0, t + 1)
def copyD (lim : Int) : Nat → DS → DOut
  | 0, s => .go { s with st := 7, left := 0 }
  | k + 1, s => tellD lim ((s.hist[s.hist.length - s.far]?).getD 0) s (copyD lim k)
def headD (v : Nat) (s : DS) : DOut :=
  if v / 2 = 0 then .go { s with last := v % 2 == 1, st := 1 } else if v / 2 = 1 then .go { s with last := v % 2 == 1, st := 7, lit := some fixL, way := some fixD }
  else if v / 2 = 2 then .go { s with last := v % 2 == 1, st := 3 } else .bad s.hist 3
def sizeD (s : DS) : DOut := takeD 16 s fun n s => takeD 16 s fun m s => if n ^^^ m = 65535 then .go { s with left := n, st := 2 } else .bad s.hist 8
def countsD (v : Nat) (s : DS) : DOut :=
  if 286 < v % 32 + 257 ∨ 30 < v / 32 % 32 + 1 then .bad s.hist 5 else .go { s with lits := v % 32 + 257, dists := v / 32 % 32 + 1, left := v / 1024 + 4, st := 4 }
def codesD (s : DS) : DOut :=
  if s.bits.length < 3 * s.left then .stop
  else if checkI (natsV (lens19 s.left s.bits)) = 0 ∧ (∃ x ∈ lens19 s.left s.bits, 0 < x) then .go { s with first := some (lens19 s.left s.bits), row := [], st := 5, bits := s.bits.drop (3 * s.left) } else .bad s.hist 5
def fullD (a b : Option (List Nat)) (s : DS) : DOut := match a, b with
  | some a, some b => .go { s with lit := some a, way := some b, st := 7 }
  | _, _ => .bad s.hist 5
def lensD (s : DS) : DOut :=
  if s.row.length = s.lits + s.dists then
    fullD (codeS (s.row.take s.lits) (some 256)) (codeS (s.row.drop s.lits) none) s
  else wordD s.first s fun x s =>
    if x < 16 then layD x 1 s else if x = 16 ∧ s.row.length = 0 then .bad s.hist 5
    else .go { s with left := if x = 16 then s.row.getLastD 0 else 0, extra := ([2, 3, 7][x - 16]?).getD 0, base := ([3, 3, 11][x - 16]?).getD 0, st := 6 }
def symsD (lim : Int) (s : DS) : DOut := wordD s.lit s fun x s =>
  if x < 256 then tellD lim (UInt8.ofNat x) s .go else if x = 256 then closeD s else if 285 < x then .bad s.hist 6
  else .go { s with extra := (lenE (x - 257)).1, base := (lenE (x - 257)).2, st := 8 }
def distD (s : DS) : DOut := wordD s.way s fun x s => if 29 < x then .bad s.hist 6 else .go { s with extra := (disE x).1, base := (disE x).2, st := 10 }
def rawD (lim : Int) (s : DS) : DOut :=
  if s.left = 0 then closeD s else takeD 8 s fun c s => tellD lim (UInt8.ofNat c) s fun s => .go { s with left := s.left - 1 }
def dstep (lim : Int) (s : DS) : DOut :=
  match s.st with
  | 0 => takeD 3 s headD
  | 1 => if s.bits.length / 8 < 4 then .stop else sizeD { s with bits := s.bits.drop (s.bits.length % 8) }
  | 2 => rawD lim s
  | 3 => takeD 14 s countsD
  | 4 => codesD s
  | 5 => lensD s
  | 6 => takeD s.extra s fun n s => layD s.left (s.base + n) s
  | 7 => symsD lim s
  | 8 => takeD s.extra s fun n s => .go { s with left := s.base + n, st := 9 }
  | 9 => distD s
  | 10 => takeD s.extra s fun n s => if s.hist.length < s.base + n then .bad s.hist 7 else .go { s with far := s.base + n, st := 11 }
  | 11 => copyD lim s.left s
  | _ => .stop

/-- More bits behind. -/
def DS.more (s : DS) (m : List Bool) : DS := { s with bits := s.bits ++ m }
def DOut.more (m : List Bool) : DOut → DOut
  | .stop => .stop
  | .bad h e => .bad h e
  | .go s => .go (s.more m)
/-- A step that goes on, or is bad, does so with more bits, too. -/
def Comm (k : DS → DOut) : Prop := ∀ (s : DS) (m : List Bool), m.length % 8 = 0 → k s ≠ .stop → k (s.more m) = (k s).more m

theorem comm_take {n : Nat} {k : Nat → DS → DOut} (hk : ∀ v, Comm (k v)) : Comm fun s => takeD n s k := by
  intro s m hm hs
  replace hs : takeD n s k ≠ .stop := hs
  show takeD n (s.more m) k = (takeD n s k).more m
  unfold takeD at hs ⊢
  by_cases h : s.bits.length < n
  · rw [if_pos h] at hs; exact absurd rfl hs
  · rw [if_neg h] at hs ⊢
    have h2 : ¬ (s.more m).bits.length < n := by simp [DS.more]; omega
    rw [if_neg h2]
    have e1 : (s.more m).bits.take n = s.bits.take n := by simp [DS.more, List.take_append_of_le_length (by omega : n ≤ s.bits.length)]
    have e2 : (s.more m).bits.drop n = s.bits.drop n ++ m := by simp [DS.more, List.drop_append_of_le_length (by omega : n ≤ s.bits.length)]
    rw [e1, e2]
    exact hk _ { s with bits := s.bits.drop n } m hm hs

theorem decO_more {o : Option (List Nat)} {l m : List Bool} (hf : ∀ L, o = some L → Fits L) (h : (decO o l).2.1 ≠ 2) : decO o (l ++ m) = decO o l := by
  cases o with
  | none =>
    by_cases h0 : l.length = 0
    · exact absurd (by simp [decO, h0]) h
    · have h1 : ¬ (l ++ m).length = 0 := by rw [List.length_append]; omega
      simp only [decO]
      rw [if_neg h0, if_neg h1]
  | some L =>
    have hL := hf L rfl
    unfold decO at h ⊢
    simp only at h ⊢
    have hit : ∀ t, hits L l t → hits L (l ++ m) t := by
      intro t ⟨h1, h2⟩
      refine ⟨by rw [List.length_append]; omega, ?_⟩
      rw [List.take_append_of_le_length h1, h2]
    unfold decL at h ⊢
    cases hfd : (ord L 15).find? (fun t => decide (hits L l t)) with
    | some t =>
      have h1 := List.mem_of_find?_eq_some hfd
      have h2 := List.find?_some hfd
      have h3 := hit t (by simpa using h2)
      cases hfe : (ord L 15).find? (fun t => decide (hits L (l ++ m) t)) with
      | none => rw [List.find?_eq_none] at hfe; exact absurd h3 (by simpa using hfe t h1)
      | some u =>
        have h4 := List.mem_of_find?_eq_some hfe
        have h5 := List.find?_some hfe
        rw [hits_one hL h4 h1 (by simpa using h5) h3]
    | none =>
      rw [hfd] at h
      simp only at h
      split at h
      · exact absurd rfl h
      · rename_i hno
        rw [List.find?_eq_none] at hfd
        have hl0 : l ≠ [] := fun e => hno (.inl e)
        have hn : ∀ t ∈ ord L 15, ¬ hits L (l ++ m) t := by
          intro t ht ⟨h1, h2⟩
          by_cases hlen : (wd L t).1 ≤ l.length
          · refine absurd (show hits L l t from ⟨hlen, ?_⟩) (by simpa using hfd t ht)
            rw [← h2, List.take_append_of_le_length hlen]
          · refine hno (.inr ⟨t, ht, by omega, ?_⟩)
            rw [← h2, ← num_take, List.take_take, Nat.min_eq_left (by omega), List.take_append_of_le_length (Nat.le_refl _), List.take_length]
        have hfe : (ord L 15).find? (fun t => decide (hits L (l ++ m) t)) = none := by
          rw [List.find?_eq_none]; intro t ht; simpa using hn t ht
        rw [hfe]
        simp only
        rw [if_neg hno, if_neg]
        rintro (e | ⟨t, ht, h1, h2⟩)
        · simp at e; exact hl0 e.1
        · refine hno (.inr ⟨t, ht, by rw [List.length_append] at h1; omega, ?_⟩)
          have h3 : num l = num (l ++ m) % 2 ^ l.length := by rw [← num_take, List.take_append_of_le_length (Nat.le_refl _), List.take_length]
          rw [h3, ← h2, Nat.mod_mod_of_dvd]
          exact Nat.pow_dvd_pow 2 (by simp)

theorem decO_good {o : Option (List Nat)} {l : List Bool} {s e n : Nat} (h : decO o l = (s, e, n)) : n ≤ l.length ∧ (e = 0 → 0 < n) ∧ (e ≠ 0 → n = 0) := by
  cases o with
  | none =>
    have h1 : (decO none l).2.2 = 0 := rfl
    have h2 : (decO none l).2.1 ≠ 0 := by
      show (if l.length = 0 then 2 else 6) ≠ 0
      split <;> decide
    rw [h] at h1 h2
    simp only at h1 h2
    subst h1
    exact ⟨Nat.zero_le _, fun h => absurd h h2, fun _ => rfl⟩
  | some L =>
    rw [show decO (some L) l = decL L l from rfl] at h
    exact decL_good h

/-- All codes of a state are right ones. -/
def FitO (o : Option (List Nat)) : Prop := ∀ L, o = some L → Fits L

theorem comm_word {g : DS → Option (List Nat)} {k : Nat → DS → DOut} (hg : ∀ s m, g (s.more m) = g s) (hk : ∀ v, Comm (k v)) : ∀ (s : DS) (m : List Bool), FitO (g s) → m.length % 8 = 0 → wordD (g s) s k ≠ .stop → wordD (g (s.more m)) (s.more m) k = (wordD (g s) s k).more m := by
  intro s m hf hm hs
  rw [hg]
  generalize g s = o at hf hs ⊢
  unfold wordD at hs ⊢
  have h2 : (decO o s.bits).2.1 ≠ 2 := by
    intro h
    rw [if_neg (by rw [h]; decide), if_pos h] at hs
    exact hs rfl
  have he : decO o (s.more m).bits = decO o s.bits := decO_more hf h2
  rw [he]
  obtain ⟨⟨x, e, n⟩, hD⟩ : ∃ D, decO o s.bits = D := ⟨_, rfl⟩
  obtain ⟨d1, -, -⟩ := decO_good hD
  rw [hD] at hs h2 ⊢
  simp only at hs h2 ⊢
  by_cases he0 : e = 0
  · rw [if_pos he0] at hs ⊢
    rw [if_pos he0]
    have e2 : (s.more m).bits.drop n = s.bits.drop n ++ m := by simp [DS.more, List.drop_append_of_le_length d1]
    rw [e2]
    exact hk _ { s with bits := s.bits.drop n } m hm hs
  · rw [if_neg he0, if_neg h2, if_neg he0, if_neg h2]
    rfl

theorem comm_tell {lim : Int} {c : UInt8} {k : DS → DOut} (hk : Comm k) : Comm fun s => tellD lim c s k := by
  intro s m hm hs
  replace hs : tellD lim c s k ≠ .stop := hs
  show tellD lim c (s.more m) k = (tellD lim c s k).more m
  unfold tellD at hs ⊢
  by_cases h : lim ≤ (s.hist.length : Int)
  · rw [if_pos h, if_pos (show lim ≤ ((s.more m).hist.length : Int) from h)]; rfl
  · rw [if_neg h] at hs ⊢
    rw [if_neg (show ¬ lim ≤ ((s.more m).hist.length : Int) from h)]
    exact hk { s with hist := s.hist ++ [c] } m hm hs
theorem comm_close : Comm closeD := by
  intro s m hm _
  unfold closeD DOut.more DS.more
  cases hl : s.last
  · simp
  · simp only [if_true, DOut.go.injEq, DS.mk.injEq, true_and]
    simp only [List.length_append]
    have : (s.bits.length + m.length) % 8 = s.bits.length % 8 := by omega
    rw [this, List.drop_append_of_le_length (Nat.mod_le _ _)]
theorem comm_lay (v n : Nat) : Comm (layD v n) := by
  intro s m hm _
  unfold layD DOut.more DS.more
  simp only
  split <;> rfl
theorem comm_copy (lim : Int) : ∀ k, Comm (copyD lim k)
  | 0 => fun s m hm _ => rfl
  | k + 1 => fun s m hm hs => comm_tell (comm_copy lim k) s m hm hs

end Go.Proofs.Ytdpocnkeokplpaa

namespace Go.Proofs.Ytdpocnkeokplpaa
open Go.RowKit Go.Hal
set_option linter.unusedVariables false
set_option linter.unusedSimpArgs false

/-- All codes of a state are codes. -/
structure FitS (s : DS) : Prop where
  first : FitO s.first
  lit : FitO s.lit
  way : FitO s.way

theorem comm_head (v : Nat) : Comm (headD v) := by
  intro s m hm _
  unfold headD
  by_cases h0 : v / 2 = 0
  · simp only [if_pos h0]; rfl
  · by_cases h1 : v / 2 = 1
    · simp only [if_neg h0, if_pos h1]; rfl
    · by_cases h2 : v / 2 = 2
      · simp only [if_neg h0, if_neg h1, if_pos h2]; rfl
      · simp only [if_neg h0, if_neg h1, if_neg h2]; rfl
theorem comm_size : Comm sizeD := by
  refine comm_take fun n => comm_take fun k => ?_
  intro s m hm _
  by_cases h : n ^^^ k = 65535
  · simp only [if_pos h]; rfl
  · simp only [if_neg h]; rfl
theorem comm_counts (v : Nat) : Comm (countsD v) := by
  intro s m hm _
  unfold countsD
  by_cases h : 286 < v % 32 + 257 ∨ 30 < v / 32 % 32 + 1
  · simp only [if_pos h]; rfl
  · simp only [if_neg h]; rfl
theorem lens19_more {k : Nat} {l m : List Bool} (h : 3 * k ≤ l.length) : lens19 k (l ++ m) = lens19 k l := by
  unfold lens19
  refine List.map_congr_left fun s _ => ?_
  by_cases hk : ord19.idxOf s < k
  · rw [if_pos hk, if_pos hk]
    rw [List.drop_append_of_le_length (by omega), List.take_append_of_le_length (by rw [List.length_drop]; omega)]
  · rw [if_neg hk, if_neg hk]
theorem comm_codes : Comm codesD := by
  intro s m hm hs
  unfold codesD at hs ⊢
  by_cases h : s.bits.length < 3 * s.left
  · rw [if_pos h] at hs; exact absurd rfl hs
  · have h2 : ¬ (s.more m).bits.length < 3 * (s.more m).left := by simp [DS.more]; omega
    rw [if_neg h, if_neg h2]
    have e1 : lens19 (s.more m).left (s.more m).bits = lens19 s.left s.bits := lens19_more (show 3 * s.left ≤ s.bits.length by omega)
    rw [e1]
    by_cases h3 : checkI (natsV (lens19 s.left s.bits)) = 0 ∧ (∃ x ∈ lens19 s.left s.bits, 0 < x)
    · rw [if_pos h3, if_pos h3]
      simp only [DOut.more, DS.more]
      rw [List.drop_append_of_le_length (by omega)]
    · rw [if_neg h3, if_neg h3]; rfl
theorem comm_lens {s : DS} {m : List Bool} (hf : FitS s) (hm : m.length % 8 = 0) (hs : lensD s ≠ .stop) : lensD (s.more m) = (lensD s).more m := by
  unfold lensD at hs ⊢
  by_cases h : s.row.length = s.lits + s.dists
  · rw [if_pos h, if_pos (show (s.more m).row.length = (s.more m).lits + (s.more m).dists from h)]
    show fullD (codeS (s.row.take s.lits) (some 256)) (codeS (s.row.drop s.lits) none) (s.more m) = (fullD (codeS (s.row.take s.lits) (some 256)) (codeS (s.row.drop s.lits) none) s).more m
    generalize codeS (s.row.take s.lits) (some 256) = a
    generalize codeS (s.row.drop s.lits) none = b
    cases a <;> cases b <;> rfl
  · rw [if_neg h] at hs
    rw [if_neg h, if_neg (show ¬ (s.more m).row.length = (s.more m).lits + (s.more m).dists from h)]
    refine comm_word (g := DS.first) (fun _ _ => rfl) (fun x => ?_) s m hf.first hm hs
    intro s m hm hs
    by_cases h1 : x < 16
    · simp only [if_pos h1] at hs ⊢; exact comm_lay x 1 s m hm hs
    · by_cases h2 : x = 16 ∧ s.row.length = 0
      · simp only [if_neg h1, if_pos h2, if_pos (show x = 16 ∧ (s.more m).row.length = 0 from h2)]; rfl
      · simp only [if_neg h1, if_neg h2, if_neg (show ¬ (x = 16 ∧ (s.more m).row.length = 0) from h2)]; rfl
theorem comm_syms {lim : Int} {s : DS} {m : List Bool} (hf : FitS s) (hm : m.length % 8 = 0) (hs : symsD lim s ≠ .stop) : symsD lim (s.more m) = (symsD lim s).more m := by
  refine comm_word (g := DS.lit) (fun _ _ => rfl) (fun x => ?_) s m hf.lit hm hs
  intro s m hm hs
  by_cases h1 : x < 256
  · simp only [if_pos h1] at hs ⊢; exact comm_tell (k := .go) (fun _ _ _ _ => rfl) s m hm hs
  · by_cases h2 : x = 256
    · simp only [if_neg h1, if_pos h2] at hs ⊢; exact comm_close s m hm hs
    · by_cases h3 : 285 < x
      · simp only [if_neg h1, if_neg h2, if_pos h3]; rfl
      · simp only [if_neg h1, if_neg h2, if_neg h3]
        generalize lenE (x - 257) = q
        rfl
theorem comm_dist {s : DS} {m : List Bool} (hf : FitS s) (hm : m.length % 8 = 0) (hs : distD s ≠ .stop) : distD (s.more m) = (distD s).more m := by
  refine comm_word (g := DS.way) (fun _ _ => rfl) (fun x => ?_) s m hf.way hm hs
  intro s m hm hs
  by_cases h3 : 29 < x
  · simp only [if_pos h3]; rfl
  · simp only [if_neg h3]; rfl
theorem comm_raw (lim : Int) : Comm (rawD lim) := by
  intro s m hm hs
  unfold rawD at hs ⊢
  by_cases h : s.left = 0
  · rw [if_pos h] at hs; rw [if_pos h, if_pos (show (s.more m).left = 0 from h)]; exact comm_close s m hm hs
  · rw [if_neg h] at hs; rw [if_neg h, if_neg (show ¬ (s.more m).left = 0 from h)]
    exact comm_take (fun c => comm_tell fun s m _ _ => rfl) s m hm hs
theorem dstep_more {lim : Int} {s : DS} {m : List Bool} (hf : FitS s) (hm : m.length % 8 = 0) (hs : dstep lim s ≠ .stop) : dstep lim (s.more m) = (dstep lim s).more m := by
  have e : (s.more m).st = s.st := rfl
  unfold dstep at hs ⊢
  rw [e]
  split at hs
  · exact comm_take comm_head s m hm hs
  · by_cases h : s.bits.length / 8 < 4
    · rw [if_pos h] at hs; exact absurd rfl hs
    · rw [if_neg h] at hs
      have h2 : ¬ (s.more m).bits.length / 8 < 4 := by simp [DS.more]; omega
      simp only [if_neg h, if_neg h2]
      have e2 : (s.more m).bits.drop ((s.more m).bits.length % 8) = s.bits.drop (s.bits.length % 8) ++ m := by
        simp only [DS.more, List.length_append]
        rw [show (s.bits.length + m.length) % 8 = s.bits.length % 8 by omega, List.drop_append_of_le_length (Nat.mod_le _ _)]
      rw [e2]
      exact comm_size { s with bits := s.bits.drop (s.bits.length % 8) } m hm hs
  · exact comm_raw lim s m hm hs
  · exact comm_take comm_counts s m hm hs
  · exact comm_codes s m hm hs
  · exact comm_lens hf hm hs
  · exact comm_take (fun n s m hm hs => comm_lay s.left (s.base + n) s m hm hs) s m hm hs
  · exact comm_syms hf hm hs
  · exact comm_take (fun n s m hm hs => rfl) s m hm hs
  · exact comm_dist hf hm hs
  · refine comm_take (fun n s m hm hs => ?_) s m hm hs
    by_cases h : s.hist.length < s.base + n
    · simp only [if_pos h, if_pos (show (s.more m).hist.length < (s.more m).base + n from h)]; rfl
    · simp only [if_neg h, if_neg (show ¬ (s.more m).hist.length < (s.more m).base + n from h)]; rfl
  · exact comm_copy lim s.left s m hm hs
  · exact absurd rfl hs

/-- How a run ends. -/
inductive DRes where
  | bad (hist : List UInt8) (e : Nat)
  | ok (s : DS)
inductive Runs (lim : Int) : DS → DRes → Prop where
  | stop {s : DS} (h : dstep lim s = .stop) : Runs lim s (.ok s)
  | bad {s : DS} {hist : List UInt8} {e : Nat} (h : dstep lim s = .bad hist e) : Runs lim s (.bad hist e)
  | go {s t : DS} {r : DRes} (h : dstep lim s = .go t) (h2 : Runs lim t r) : Runs lim s r
theorem runs_one {lim : Int} {s : DS} {r q : DRes} (h : Runs lim s r) (h2 : Runs lim s q) : r = q := by
  induction h with
  | stop h => cases h2 with
    | stop => rfl
    | bad g => rw [h] at g; cases g
    | go g _ => rw [h] at g; cases g
  | bad h => cases h2 with
    | stop g => rw [h] at g; cases g
    | bad g => rw [h] at g; cases g; rfl
    | go g _ => rw [h] at g; cases g
  | go h _ ih => cases h2 with
    | stop g => rw [h] at g; cases g
    | bad g => rw [h] at g; cases g
    | go g g2 => rw [h] at g; cases g; exact ih g2

/-- What holds of all states that come up. -/
structure DInv (lim : Int) (s : DS) : Prop where
  first : ∀ L, s.first = some L → Fits L ∧ L.length = 19
  lit : ∀ L, s.lit = some L → Fits L ∧ L.length ≤ 288
  way : ∀ L, s.way = some L → Fits L ∧ L.length ≤ 32
  st : s.st ≤ 12
  left : s.left ≤ 65535
  four : s.st = 4 → 4 ≤ s.left ∧ s.left ≤ 19
  lits : s.lits ≤ 286 ∧ s.dists ≤ 30
  five : s.st = 4 ∨ s.st = 5 ∨ s.st = 6 → 257 ≤ s.lits ∧ 1 ≤ s.dists
  row : s.st = 5 ∨ s.st = 6 → s.row.length ≤ s.lits + s.dists
  rowv : ∀ x ∈ s.row, x < 16
  extra : s.extra ≤ 13
  base : s.base ≤ 24577
  six : s.st = 6 → s.left < 16
  ten : s.st = 10 → 1 ≤ s.base ∧ s.base + 2 ^ s.extra ≤ 32769
  far : s.st = 11 → 1 ≤ s.far ∧ s.far ≤ s.hist.length ∧ s.far ≤ 32768
  hist : (s.hist.length : Int) ≤ max 0 lim
  last : s.st = 12 → s.bits.length % 8 = 0
theorem DInv.fit {lim : Int} {s : DS} (h : DInv lim s) : FitS s := ⟨fun L e => (h.first L e).1, fun L e => (h.lit L e).1, fun L e => (h.way L e).1⟩

def DOut.All (P : DS → Prop) : DOut → Prop
  | .go s => P s
  | _ => True
theorem allD_take {P : DS → Prop} {n : Nat} {s : DS} {k : Nat → DS → DOut} (h : n ≤ s.bits.length → (k (num (s.bits.take n)) { s with bits := s.bits.drop n }).All P) : (takeD n s k).All P := by
  unfold takeD
  by_cases h0 : s.bits.length < n
  · rw [if_pos h0]; trivial
  · rw [if_neg h0]; exact h (by omega)
theorem allD_word {P : DS → Prop} {o : Option (List Nat)} {s : DS} {k : Nat → DS → DOut} (h : (decO o s.bits).2.1 = 0 → (k (decO o s.bits).1 { s with bits := s.bits.drop (decO o s.bits).2.2 }).All P) : (wordD o s k).All P := by
  unfold wordD
  by_cases h0 : (decO o s.bits).2.1 = 0
  · rw [if_pos h0]; exact h h0
  · rw [if_neg h0]; split <;> trivial
theorem allD_tell {P : DS → Prop} {lim : Int} {c : UInt8} {s : DS} {k : DS → DOut} (h : (s.hist.length : Int) < lim → (k { s with hist := s.hist ++ [c] }).All P) : (tellD lim c s k).All P := by
  unfold tellD
  by_cases h0 : lim ≤ (s.hist.length : Int)
  · rw [if_pos h0]; trivial
  · rw [if_neg h0]; exact h (by omega)
theorem num_take_lt' (l : List Bool) (n : Nat) : num (l.take n) < 2 ^ n := by
  have h := num_lt (l.take n)
  refine Nat.lt_of_lt_of_le h (Nat.pow_le_pow_right (by omega) ?_)
  rw [List.length_take]; omega
theorem allD_lay {lim : Int} {v n : Nat} {s : DS} (h : DInv lim s) (hst : s.st = 5 ∨ s.st = 6) (hv : v < 16) : (layD v n s).All (DInv lim) := by
  unfold layD
  by_cases h0 : s.lits + s.dists < s.row.length + n
  · rw [if_pos h0]; trivial
  · rw [if_neg h0]
    have h5 := h.five (by omega)
    exact { h with
      st := Nat.le_of_ble_eq_true rfl
      four := fun e => by simp at e
      five := fun _ => h5
      row := fun _ => by show (s.row ++ List.replicate n v).length ≤ _; rw [List.length_append, List.length_replicate]; show _ ≤ s.lits + s.dists; omega
      rowv := fun x hx => by
        rcases List.mem_append.1 hx with hx | hx
        · exact h.rowv x hx
        · rw [(List.mem_replicate.1 hx).2]; exact hv
      six := fun e => by simp at e
      ten := fun e => by simp at e
      far := fun e => by simp at e
      last := fun e => by simp at e }
theorem allD_close {lim : Int} {s : DS} (h : DInv lim s) : (closeD s).All (DInv lim) := by
  unfold closeD
  show DInv lim _
  split
  · exact { h with
      st := Nat.le_of_ble_eq_true rfl
      four := fun e => by simp at e
      five := fun e => by simp at e
      row := fun e => by simp at e
      six := fun e => by simp at e
      ten := fun e => by simp at e
      far := fun e => by simp at e
      last := fun e => by show (s.bits.drop (s.bits.length % 8)).length % 8 = 0; rw [List.length_drop]; omega }
  · exact { h with
      st := Nat.le_of_ble_eq_true rfl
      four := fun e => by simp at e
      five := fun e => by simp at e
      row := fun e => by simp at e
      six := fun e => by simp at e
      ten := fun e => by simp at e
      far := fun e => by simp at e
      last := fun e => by simp at e }
/-- A state that is none of the special ones, of the same codes. -/
theorem DInv.to {lim : Int} {s t : DS} (h : DInv lim s) (h1 : t.first = s.first) (h2 : t.lit = s.lit) (h3 : t.way = s.way) (hst : t.st = 0 ∨ t.st = 1 ∨ t.st = 2 ∨ t.st = 3 ∨ t.st = 7 ∨ t.st = 8 ∨ t.st = 9)
    (hl : t.left ≤ 65535) (h4 : t.lits = s.lits) (h5 : t.dists = s.dists) (h6 : t.row = s.row) (h7 : t.extra ≤ 13) (h8 : t.base ≤ 24577) (h9 : (t.hist.length : Int) ≤ max 0 lim) : DInv lim t :=
  { first := by rw [h1]; exact h.first
    lit := by rw [h2]; exact h.lit
    way := by rw [h3]; exact h.way
    st := by omega
    left := hl
    four := fun e => by omega
    lits := by rw [h4, h5]; exact h.lits
    five := fun e => by omega
    row := fun e => by omega
    rowv := by rw [h6]; exact h.rowv
    extra := h7
    base := h8
    six := fun e => by omega
    ten := fun e => by omega
    far := fun e => by omega
    hist := h9
    last := fun e => by omega }

theorem dec_sym {o : Option (List Nat)} {l : List Bool} (h : (decO o l).2.1 = 0) : ∃ L, o = some L ∧ (decO o l).1 < L.length := by
  cases o with
  | none =>
    exfalso
    have h2 : (decO none l).2.1 ≠ 0 := by
      show (if l.length = 0 then 2 else 6) ≠ 0
      split <;> decide
    exact h2 h
  | some L =>
    refine ⟨L, rfl, ?_⟩
    rw [show decO (some L) l = decL L l from rfl] at h ⊢
    unfold decL at h ⊢
    cases hfd : (ord L 15).find? (fun t => decide (hits L l t)) with
    | some t =>
      simp only [hfd]
      obtain ⟨n, -, -, h3⟩ := (mem_ord _ _ _).1 (List.mem_of_find?_eq_some hfd)
      exact (List.getElem?_eq_some_iff.1 h3).1
    | none =>
      rw [hfd] at h
      simp only at h
      split at h <;> cases h
theorem natL_natsV' (L : List Nat) : natL (natsV L) = L := by
  unfold natL natsV
  rw [List.map_map]
  exact (List.map_congr_left (fun x _ => by simp)).trans (List.map_id L)
theorem check_fits {L : List Nat} (h : checkI (natsV L) = 0) : Fits L ∧ L.length ≤ 288 := by
  obtain ⟨h1, -, -, h4⟩ := checkI_ok h
  rw [natL_natsV'] at h4
  refine ⟨h4, ?_⟩
  unfold natsV at h1
  rwa [List.length_map] at h1
theorem codeS_fits {L M : List Nat} {k : Option Nat} (h : codeS L k = some M) : Fits M ∧ M.length ≤ 288 := by
  unfold codeS at h
  split at h
  · rename_i h2
    cases h
    exact check_fits h2.1
  · cases h
theorem lens19_length (k : Nat) (l : List Bool) : (lens19 k l).length = 19 := by simp [lens19]
theorem fix_lit : codeS fixL (some 256) = some fixL := by decide +kernel
theorem fix_way : codeS fixD none = some fixD := by decide +kernel
theorem lenE_le (s : Nat) (h : s ≤ 28) : (lenE s).1 ≤ 13 ∧ (lenE s).2 ≤ 24577 := by
  have : ∀ s, s < 29 → (lenE s).1 ≤ 13 ∧ (lenE s).2 ≤ 24577 := by decide
  exact this s (by omega)
theorem disE_le (s : Nat) (h : s ≤ 29) : (disE s).1 ≤ 13 ∧ 1 ≤ (disE s).2 ∧ (disE s).2 ≤ 24577 ∧ (disE s).2 + 2 ^ (disE s).1 ≤ 32769 := by
  have : ∀ s, s < 30 → (disE s).1 ≤ 13 ∧ 1 ≤ (disE s).2 ∧ (disE s).2 ≤ 24577 ∧ (disE s).2 + 2 ^ (disE s).1 ≤ 32769 := by decide
  exact this s (by omega)

theorem allD_copy {lim : Int} : ∀ (k : Nat) (s : DS), DInv lim s → s.st = 11 → (copyD lim k s).All (DInv lim)
  | 0, s, h, _ => h.to rfl rfl rfl (by simp) (by simp) rfl rfl rfl h.extra h.base h.hist
  | k + 1, s, h, hst => by
    refine allD_tell fun hl => allD_copy k _ ?_ hst
    have h2 := h.far hst
    exact { h with
      far := fun _ => by show _ ∧ _ ≤ (s.hist ++ [_]).length ∧ _; rw [List.length_append]; exact ⟨h2.1, by show s.far ≤ _; omega, h2.2.2⟩
      hist := by show ((s.hist ++ [_]).length : Int) ≤ _; rw [List.length_append, List.length_singleton]; omega }

theorem dstep_all {lim : Int} {s : DS} (h : DInv lim s) : (dstep lim s).All (DInv lim) := by
  unfold dstep
  split
  · -- head
    refine allD_take fun _ => ?_
    unfold headD
    split
    · exact h.to rfl rfl rfl (by simp) h.left rfl rfl rfl h.extra h.base h.hist
    · split
      · have h2 : DInv lim { s with lit := some fixL, way := some fixD } := { h with
          lit := fun L e => by cases e; exact codeS_fits fix_lit
          way := fun L e => by cases e; exact ⟨(codeS_fits fix_way).1, by decide⟩ }
        exact h2.to rfl rfl rfl (by simp) h.left rfl rfl rfl h.extra h.base h.hist
      · split
        · exact h.to rfl rfl rfl (by simp) h.left rfl rfl rfl h.extra h.base h.hist
        · trivial
  · -- size
    split
    · trivial
    · unfold sizeD
      refine allD_take fun _ => allD_take fun _ => ?_
      split
      · refine h.to rfl rfl rfl (by simp) ?_ rfl rfl rfl h.extra h.base h.hist
        have := num_take_lt' (s.bits.drop (s.bits.length % 8)) 16
        show num _ ≤ _
        simp only at this ⊢
        omega
      · trivial
  · -- raw
    unfold rawD
    split
    · exact allD_close h
    · refine allD_take fun _ => allD_tell fun hl => ?_
      refine h.to rfl rfl rfl (by simp; omega) (by have := h.left; show s.left - 1 ≤ _; omega) rfl rfl rfl h.extra h.base ?_
      show ((s.hist ++ [_]).length : Int) ≤ _
      rw [List.length_append, List.length_singleton]
      simp only at hl
      omega
  · -- counts
    refine allD_take fun _ => ?_
    have h14 := num_take_lt' s.bits 14
    generalize num (s.bits.take 14) = v at *
    unfold countsD
    split
    · trivial
    · rename_i hv
      exact { h with
        st := Nat.le_of_ble_eq_true rfl
        left := by show v / 1024 + 4 ≤ 65535; omega
        four := fun _ => by show 4 ≤ v / 1024 + 4 ∧ v / 1024 + 4 ≤ 19; omega
        lits := by show v % 32 + 257 ≤ 286 ∧ v / 32 % 32 + 1 ≤ 30; omega
        five := fun _ => by show 257 ≤ v % 32 + 257 ∧ 1 ≤ v / 32 % 32 + 1; omega
        row := fun e => by simp at e
        six := fun e => by simp at e
        ten := fun e => by simp at e
        far := fun e => by simp at e
        last := fun e => by simp at e }
  · -- codes
    rename_i hst
    unfold codesD
    split
    · trivial
    · split
      · rename_i h2
        have h5 := h.five (.inl hst)
        exact { h with
          first := fun L e => by cases e; exact ⟨(check_fits h2.1).1, lens19_length _ _⟩
          st := Nat.le_of_ble_eq_true rfl
          four := fun e => by simp at e
          five := fun _ => h5
          row := fun _ => by show 0 ≤ _; omega
          rowv := fun x hx => by simp at hx
          six := fun e => by simp at e
          ten := fun e => by simp at e
          far := fun e => by simp at e
          last := fun e => by simp at e }
      · trivial
  · -- lens
    rename_i hst
    have h5 := h.five (.inr (.inl hst))
    have h6 := h.row (.inl hst)
    unfold lensD
    split
    · cases ha : codeS (s.row.take s.lits) (some 256) with
      | none => trivial
      | some a =>
      cases hb : codeS (s.row.drop s.lits) none with
      | none => trivial
      | some b =>
        have h2 : DInv lim { s with lit := some a, way := some b } := { h with
          lit := fun L e => by cases e; exact codeS_fits ha
          way := fun L e => by
            cases e
            refine ⟨(codeS_fits hb).1, ?_⟩
            have h7 := h.lits
            unfold codeS at hb
            split at hb
            · cases hb
              rw [List.length_drop]; omega
            · cases hb }
        exact h2.to rfl rfl rfl (by simp) h.left rfl rfl rfl h.extra h.base h.hist
    · refine allD_word fun he => ?_
      have h2 : DInv lim { s with bits := s.bits.drop (decO s.first s.bits).2.2 } := { h with last := fun e => by rw [show s.st = 5 from hst] at e; cases e }
      split
      · rename_i hx
        exact allD_lay h2 (.inl hst) hx
      · split
        · trivial
        · rename_i hx _
          obtain ⟨L, hL, hlt⟩ := dec_sym he
          rw [(h.first L hL).2] at hlt
          generalize (decO s.first s.bits).1 = x at *
          have hx3 : x = 16 ∨ x = 17 ∨ x = 18 := by omega
          have hlast : s.row.getLastD 0 < 16 := by
            cases hr : s.row.getLast? with
            | none => simp [List.getLastD_eq_getLast?, hr]
            | some y =>
              simp only [List.getLastD_eq_getLast?, hr, Option.getD_some]
              exact h.rowv y (List.mem_of_getLast? hr)
          have hl : (if x = 16 then s.row.getLastD 0 else 0) < 16 := by split <;> omega
          exact { h2 with
            st := Nat.le_of_ble_eq_true rfl
            left := by show (if x = 16 then s.row.getLastD 0 else 0) ≤ 65535; omega
            four := fun e => by simp at e
            five := fun _ => h5
            row := fun _ => h6
            extra := by show ([2, 3, 7][x - 16]?).getD 0 ≤ 13; rcases hx3 with rfl | rfl | rfl <;> decide
            base := by show ([3, 3, 11][x - 16]?).getD 0 ≤ 24577; rcases hx3 with rfl | rfl | rfl <;> decide
            six := fun _ => hl
            ten := fun e => by simp at e
            far := fun e => by simp at e
            last := fun e => by simp at e }
  · -- more
    rename_i hst
    refine allD_take fun _ => ?_
    have h2 : DInv lim { s with bits := s.bits.drop s.extra } := { h with last := fun e => by rw [show s.st = 6 from hst] at e; cases e }
    exact allD_lay h2 (.inr hst) (h.six hst)
  · -- syms
    rename_i hst
    unfold symsD
    refine allD_word fun he => ?_
    have h2 : DInv lim { s with bits := s.bits.drop (decO s.lit s.bits).2.2 } := { h with last := fun e => by rw [show s.st = 7 from hst] at e; cases e }
    split
    · refine allD_tell fun hl => ?_
      refine h.to rfl rfl rfl (by simp; omega) h.left rfl rfl rfl h.extra h.base ?_
      show ((s.hist ++ [_]).length : Int) ≤ _
      rw [List.length_append, List.length_singleton]
      simp only at hl
      omega
    · split
      · exact allD_close h2
      · split
        · trivial
        · rename_i hx
          generalize (decO s.lit s.bits).1 = x at *
          obtain ⟨y, hy⟩ : ∃ y, x - 257 = y := ⟨_, rfl⟩
          have h3 := lenE_le y (by omega)
          rw [← hy] at h3
          clear hy
          generalize lenE (x - 257) = z at *
          exact h.to rfl rfl rfl (by simp) h.left rfl rfl rfl h3.1 h3.2 h.hist
  · -- longer
    refine allD_take fun _ => ?_
    have h3 := num_take_lt' s.bits s.extra
    have h4 : 2 ^ s.extra ≤ 2 ^ 13 := Nat.pow_le_pow_right (by omega) h.extra
    have h5 := h.base
    refine h.to rfl rfl rfl (by simp) ?_ rfl rfl rfl h.extra h.base h.hist
    show s.base + num (s.bits.take s.extra) ≤ 65535
    omega
  · -- dist
    rename_i hst
    unfold distD
    refine allD_word fun he => ?_
    split
    · trivial
    · have h3 := disE_le (decO s.way s.bits).1 (by omega)
      exact { h with
        st := Nat.le_of_ble_eq_true rfl
        four := fun e => by simp at e
        five := fun e => by simp at e
        row := fun e => by simp at e
        extra := h3.1
        base := h3.2.2.1
        six := fun e => by simp at e
        ten := fun _ => ⟨h3.2.1, h3.2.2.2⟩
        far := fun e => by simp at e
        last := fun e => by simp at e }
  · -- farther
    rename_i hst
    have h3 := num_take_lt' s.bits s.extra
    refine allD_take fun _ => ?_
    split
    · trivial
    · rename_i hf
      obtain ⟨h4, h5⟩ := h.ten hst
      exact { h with
        st := Nat.le_of_ble_eq_true rfl
        four := fun e => by simp at e
        five := fun e => by simp at e
        row := fun e => by simp at e
        six := fun e => by simp at e
        ten := fun e => by simp at e
        far := fun _ => by
          refine ⟨?_, ?_, ?_⟩
          · show 1 ≤ s.base + _; omega
          · exact Nat.le_of_not_lt hf
          · show s.base + num (s.bits.take s.extra) ≤ _; omega
        last := fun e => by simp at e }
  · rename_i hst
    exact allD_copy _ _ h hst
  · trivial

theorem DInv.more {lim : Int} {s : DS} (h : DInv lim s) {m : List Bool} (hm : m.length % 8 = 0) : DInv lim (s.more m) :=
  { h with last := fun e => by have := h.last e; show (s.bits ++ m).length % 8 = 0; rw [List.length_append]; omega }
theorem DInv.step {lim : Int} {s t : DS} (h : DInv lim s) (hs : dstep lim s = .go t) : DInv lim t := by
  have := dstep_all h
  rw [hs] at this
  exact this

/-- How it goes on with more. -/
def DRes.on (lim : Int) (m : List Bool) (q : DRes) : DRes → Prop
  | .bad hist e => q = .bad hist e
  | .ok t => Runs lim (t.more m) q
/-- More bytes behind a run: it goes on from where it stopped. -/
theorem runs_more {lim : Int} {s : DS} {r : DRes} (h : Runs lim s r) (hI : DInv lim s) {m : List Bool} (hm : m.length % 8 = 0) {q : DRes}
    (h2 : DRes.on lim m q r) : Runs lim (s.more m) q := by
  induction h with
  | stop h => exact h2
  | @bad s hist e h =>
    rw [show q = .bad hist e from h2]
    exact .bad (by rw [dstep_more hI.fit hm (by rw [h]; intro e; cases e), h]; rfl)
  | @go s t r h _ ih =>
    exact .go (by rw [dstep_more hI.fit hm (by rw [h]; intro e; cases e), h]; rfl) (ih (hI.step h) h2)
theorem runs_inv {lim : Int} {s t : DS} (h : Runs lim s (.ok t)) (hI : DInv lim s) : DInv lim t := by
  generalize hr : DRes.ok t = r at h
  induction h with
  | stop h => cases hr; exact hI
  | bad h => cases hr
  | go h _ ih => exact ih (hI.step h) hr
/-- What was told, all. -/
def DRes.hist : DRes → List UInt8
  | .bad h _ => h
  | .ok s => s.hist
def DRes.err : DRes → Nat
  | .bad _ e => e
  | .ok _ => 0

end Go.Proofs.Ytdpocnkeokplpaa

namespace Go.Proofs.Ytdpocnkeokplpaa
open Go.RowKit Go.Hal
set_option linter.unusedVariables false
set_option linter.unusedSimpArgs false

/-- How many steps are to come, at most. -/
def rankD (n : Nat) : Nat := if n = 8 ∨ n = 5 ∨ n = 2 ∨ n = 11 then 1 else if n = 10 ∨ n = 4 ∨ n = 6 then 2 else 0
def muD (s : DS) : Nat := 3 * s.bits.length + rankD s.st
theorem rankD_le (n : Nat) : rankD n ≤ 2 := by
  unfold rankD
  split
  · omega
  · split <;> omega
theorem mu_of {s t : DS} (h : t.bits.length + 1 ≤ s.bits.length) : muD t < muD s := by
  have := rankD_le t.st
  unfold muD
  omega
theorem mu_same {s t : DS} {a b : Nat} (h : t.bits.length ≤ s.bits.length) (h1 : t.st = a) (h2 : s.st = b) (h3 : rankD a < rankD b) : muD t < muD s := by
  unfold muD
  rw [h1, h2]
  omega
theorem all_lay2 {v n : Nat} {s : DS} {P : DS → Prop} (h : P { s with row := s.row ++ List.replicate n v, st := 5 }) : (layD v n s).All P := by
  unfold layD
  split
  · trivial
  · exact h
theorem all_close2 {s : DS} {P : DS → Prop} (h1 : P { s with st := 12, bits := s.bits.drop (s.bits.length % 8) }) (h2 : P { s with st := 0 }) : (closeD s).All P := by
  unfold closeD
  show P _
  split
  · exact h1
  · exact h2
theorem all_copy2 {lim : Int} {P : DS → Prop} : ∀ (k : Nat) (s : DS), (∀ h, P { s with hist := h, st := 7, left := 0 }) → (copyD lim k s).All P
  | 0, s, h => h s.hist
  | k + 1, s, h => allD_tell fun _ => all_copy2 k _ (fun h' => h h')
theorem dstep_mu {lim : Int} {s : DS} (hI : DInv lim s) : (dstep lim s).All fun t => muD t < muD s := by
  unfold dstep
  split
  · refine allD_take fun h => ?_
    have key : ∀ t : DS, t.bits = s.bits.drop 3 → muD t < muD s := fun t ht => mu_of (by rw [ht, List.length_drop]; omega)
    unfold headD
    split
    · exact key _ rfl
    · split
      · exact key _ rfl
      · split
        · exact key _ rfl
        · trivial
  · split
    · trivial
    · unfold sizeD
      refine allD_take fun _ => allD_take fun h => ?_
      split
      · refine mu_of ?_
        simp only [List.length_drop] at h ⊢
        omega
      · trivial
  · rename_i hst
    unfold rawD
    split
    · refine all_close2 (mu_same (a := 12) (b := 2) ?_ rfl hst (by decide)) (mu_same (a := 0) (b := 2) (Nat.le_refl _) rfl hst (by decide))
      simp only [List.length_drop]
      omega
    · refine allD_take fun h => allD_tell fun hl => mu_of ?_
      simp only [List.length_drop]
      omega
  · refine allD_take fun h => ?_
    unfold countsD
    split
    · trivial
    · refine mu_of ?_
      simp only [List.length_drop]
      omega
  · rename_i hst
    unfold codesD
    split
    · trivial
    · split
      · refine mu_same (a := 5) (b := 4) ?_ rfl hst (by decide)
        simp only [List.length_drop]
        omega
      · trivial
  · rename_i hst
    unfold lensD
    split
    · generalize codeS (s.row.take s.lits) (some 256) = a
      generalize codeS (s.row.drop s.lits) none = b
      cases a <;> cases b
      · trivial
      · trivial
      · trivial
      · exact mu_same (a := 7) (b := 5) (Nat.le_refl _) rfl hst (by decide)
    · refine allD_word fun he => ?_
      obtain ⟨⟨x, e, n⟩, hD⟩ : ∃ D, decO s.first s.bits = D := ⟨_, rfl⟩
      obtain ⟨h1, h2, -⟩ := decO_good hD
      rw [hD] at he ⊢
      have h3 := h2 he
      simp only at he h3 ⊢
      split
      · refine all_lay2 (mu_of ?_)
        simp only [List.length_drop]
        omega
      · split
        · trivial
        · refine mu_of ?_
          simp only [List.length_drop]
          omega
  · rename_i hst
    refine allD_take fun h => all_lay2 (mu_same (a := 5) (b := 6) ?_ rfl hst (by decide))
    simp only [List.length_drop]
    omega
  · rename_i hst
    unfold symsD
    refine allD_word fun he => ?_
    obtain ⟨⟨x, e, n⟩, hD⟩ : ∃ D, decO s.lit s.bits = D := ⟨_, rfl⟩
    obtain ⟨h1, h2, -⟩ := decO_good hD
    rw [hD] at he ⊢
    have h3 := h2 he
    simp only at he h3 ⊢
    have key : ∀ t : DS, t.bits = s.bits.drop n → muD t < muD s := fun t ht => mu_of (by rw [ht, List.length_drop]; omega)
    split
    · exact allD_tell fun _ => key _ rfl
    · split
      · refine all_close2 (mu_of ?_) (key _ rfl)
        simp only [List.length_drop]
        omega
      · split
        · trivial
        · generalize lenE (x - 257) = q
          exact key _ rfl
  · rename_i hst
    refine allD_take fun h => mu_same (a := 9) (b := 8) ?_ rfl hst (by decide)
    simp only [List.length_drop]
    omega
  · rename_i hst
    unfold distD
    refine allD_word fun he => ?_
    obtain ⟨⟨x, e, n⟩, hD⟩ : ∃ D, decO s.way s.bits = D := ⟨_, rfl⟩
    obtain ⟨h1, h2, -⟩ := decO_good hD
    rw [hD] at he ⊢
    have h3 := h2 he
    simp only at he h3 ⊢
    split
    · trivial
    · refine mu_of ?_
      simp only [List.length_drop]
      omega
  · rename_i hst
    refine allD_take fun h => ?_
    split
    · trivial
    · refine mu_same (a := 11) (b := 10) ?_ rfl hst (by decide)
      simp only [List.length_drop]
      omega
  · rename_i hst
    exact all_copy2 _ _ fun h => mu_same (a := 7) (b := 11) (Nat.le_refl _) rfl hst (by decide)
  · trivial
theorem mu_step {lim : Int} {s t : DS} (hI : DInv lim s) (h : dstep lim s = .go t) : muD t < muD s := by
  have := dstep_mu hI
  rw [h] at this
  exact this

/-- What was told stays. -/
def DOut.Pre (p : List UInt8) : DOut → Prop
  | .stop => True
  | .bad h _ => p <+: h
  | .go s => p <+: s.hist
theorem pre_take {p : List UInt8} {n : Nat} {s : DS} {k : Nat → DS → DOut} (h : ∀ v s', s'.hist = s.hist → (k v s').Pre p) : (takeD n s k).Pre p := by
  unfold takeD
  split
  · trivial
  · exact h _ _ rfl
theorem pre_word {p : List UInt8} {o : Option (List Nat)} {s : DS} {k : Nat → DS → DOut} (hp : p <+: s.hist) (h : ∀ v s', s'.hist = s.hist → (k v s').Pre p) : (wordD o s k).Pre p := by
  unfold wordD
  split
  · exact h _ _ rfl
  · split
    · trivial
    · exact hp
theorem pre_tell {p : List UInt8} {lim : Int} {c : UInt8} {s : DS} {k : DS → DOut} (hp : p <+: s.hist) (h : ∀ s', s'.hist = s.hist ++ [c] → (k s').Pre p) : (tellD lim c s k).Pre p := by
  unfold tellD
  split
  · exact hp
  · exact h _ rfl
theorem pre_close {p : List UInt8} {s : DS} (hp : p <+: s.hist) : (closeD s).Pre p := by
  unfold closeD
  show p <+: DS.hist _
  split <;> exact hp
theorem pre_lay {p : List UInt8} {v n : Nat} {s : DS} (hp : p <+: s.hist) : (layD v n s).Pre p := by
  unfold layD
  split <;> exact hp
theorem pre_copy {p : List UInt8} {lim : Int} : ∀ (k : Nat) (s : DS), p <+: s.hist → (copyD lim k s).Pre p
  | 0, s, h => h
  | k + 1, s, h => by
    unfold copyD tellD
    split
    · exact h
    · exact pre_copy k _ (List.IsPrefix.trans h (List.prefix_append _ _))
theorem dstep_pre {lim : Int} (s : DS) : (dstep lim s).Pre s.hist := by
  have hp : s.hist <+: s.hist := List.prefix_rfl
  unfold dstep
  split
  · refine pre_take fun v s' e => ?_
    unfold headD
    split
    · show _ <+: s'.hist; rw [e]; exact hp
    · split
      · show _ <+: s'.hist; rw [e]; exact hp
      · split
        · show _ <+: s'.hist; rw [e]; exact hp
        · show _ <+: s'.hist; rw [e]; exact hp
  · split
    · trivial
    · unfold sizeD
      refine pre_take fun v s' e => pre_take fun v2 s2 e2 => ?_
      split
      · show _ <+: s2.hist; rw [e2, e]; exact hp
      · show _ <+: s2.hist; rw [e2, e]; exact hp
  · unfold rawD
    split
    · exact pre_close hp
    · refine pre_take fun v s' e => pre_tell (by rw [e]; exact hp) fun s2 e2 => ?_
      show _ <+: s2.hist
      rw [e2, e]
      exact List.prefix_append _ _
  · refine pre_take fun v s' e => ?_
    unfold countsD
    split
    · show _ <+: s'.hist; rw [e]; exact hp
    · show _ <+: s'.hist; rw [e]; exact hp
  · unfold codesD
    split
    · trivial
    · split
      · exact hp
      · exact hp
  · unfold lensD
    split
    · generalize codeS (s.row.take s.lits) (some 256) = a
      generalize codeS (s.row.drop s.lits) none = b
      cases a <;> cases b <;> exact hp
    · refine pre_word hp fun v s' e => ?_
      split
      · exact pre_lay (by rw [e]; exact hp)
      · split
        · show _ <+: s'.hist; rw [e]; exact hp
        · show _ <+: s'.hist; rw [e]; exact hp
  · refine pre_take fun v s' e => pre_lay (by rw [e]; exact hp)
  · unfold symsD
    refine pre_word hp fun v s' e => ?_
    split
    · refine pre_tell (by rw [e]; exact hp) fun s2 e2 => ?_
      show _ <+: s2.hist
      rw [e2, e]
      exact List.prefix_append _ _
    · split
      · exact pre_close (by rw [e]; exact hp)
      · split
        · show _ <+: s'.hist; rw [e]; exact hp
        · show _ <+: s'.hist; rw [e]; exact hp
  · refine pre_take fun v s' e => ?_
    show _ <+: s'.hist; rw [e]; exact hp
  · unfold distD
    refine pre_word hp fun v s' e => ?_
    split
    · show _ <+: s'.hist; rw [e]; exact hp
    · show _ <+: s'.hist; rw [e]; exact hp
  · refine pre_take fun v s' e => ?_
    split
    · show _ <+: s'.hist; rw [e]; exact hp
    · show _ <+: s'.hist; rw [e]; exact hp
  · exact pre_copy _ _ hp
  · trivial
theorem runs_pre {lim : Int} {s : DS} {r : DRes} (h : Runs lim s r) : s.hist <+: r.hist := by
  induction h with
  | stop h => exact List.prefix_rfl
  | @bad s hist e h =>
    have := dstep_pre (lim := lim) s
    rw [h] at this
    exact this
  | @go s t r h _ ih =>
    have := dstep_pre (lim := lim) s
    rw [h] at this
    exact List.IsPrefix.trans this ih

end Go.Proofs.Ytdpocnkeokplpaa

namespace Go.Proofs.Ytdpocnkeokplpaa
open Go.RowKit Go.Hal
set_option linter.unusedVariables false
set_option linter.unusedSimpArgs false

theorem runs_mu {lim : Int} {s t : DS} (h : Runs lim s (.ok t)) (hI : DInv lim s) : muD t ≤ muD s := by
  generalize hr : DRes.ok t = r at h
  induction h with
  | stop h => cases hr; exact Nat.le_refl _
  | bad h => cases hr
  | go h _ ih => exact Nat.le_trans (ih (hI.step h) hr) (Nat.le_of_lt (mu_step hI h))
theorem runs_bits {lim : Int} {s t : DS} (h : Runs lim s (.ok t)) (hI : DInv lim s) : t.bits.length ≤ s.bits.length := by
  have h1 := runs_mu h hI
  have h2 := rankD_le s.st
  unfold muD at h1
  omega
theorem runs_stop {lim : Int} {s t : DS} (h : Runs lim s (.ok t)) : dstep lim t = .stop := by
  generalize hr : DRes.ok t = r at h
  induction h with
  | stop h => cases hr; exact h
  | bad h => cases hr
  | go h _ ih => exact ih hr

/-- Whether the last block has ended. -/
def DRes.done : DRes → Bool
  | .ok s => s.st == 12
  | .bad _ _ => false
/-- No bytes, no state but the first. -/
def ds0 : DS := ⟨0, false, 0, 0, 0, 0, 0, 0, [], none, none, none, [], []⟩
theorem ds0_inv (lim : Int) : DInv lim ds0 where
  first := fun L h => by cases h
  lit := fun L h => by cases h
  way := fun L h => by cases h
  st := by decide
  left := by decide
  four := fun h => by cases h
  lits := by decide
  five := fun h => by rcases h with h | h | h <;> cases h
  row := fun h => by rcases h with h | h <;> cases h
  rowv := fun x h => by cases h
  extra := by decide
  base := by decide
  six := fun h => by cases h
  ten := fun h => by cases h
  far := fun h => by cases h
  hist := by show ((0 : Nat) : Int) ≤ _; omega
  last := fun h => by cases h
/-- What bytes come to. -/
def Tells (lim : Int) (ys : List UInt8) (r : DRes) : Prop := Runs lim (ds0.more (bitsOf ys)) r
theorem bits8 (ys : List UInt8) : (bitsOf ys).length % 8 = 0 := by rw [bitsOf_length]; omega
theorem tells_nil (lim : Int) : Tells lim [] (.ok ds0) := .stop rfl
theorem tells_one {lim : Int} {ys : List UInt8} {r q : DRes} (h : Tells lim ys r) (h2 : Tells lim ys q) : r = q := runs_one h h2
theorem more_app (s : DS) (a b : List UInt8) : (s.more (bitsOf a)).more (bitsOf b) = s.more (bitsOf (a ++ b)) := by
  unfold DS.more
  simp only [bitsOf_append, List.append_assoc]
theorem tells_app {lim : Int} {a b : List UInt8} {s : DS} {r : DRes} (h : Tells lim a (.ok s)) (h2 : Runs lim (s.more (bitsOf b)) r) : Tells lim (a ++ b) r := by
  have h3 := runs_more h ((ds0_inv lim).more (bits8 a)) (bits8 b) (q := r) h2
  rw [more_app] at h3
  exact h3
theorem tells_bad {lim : Int} {a b : List UInt8} {hist : List UInt8} {e : Nat} (h : Tells lim a (.bad hist e)) : Tells lim (a ++ b) (.bad hist e) := by
  have h3 := runs_more h ((ds0_inv lim).more (bits8 a)) (bits8 b) (q := .bad hist e) rfl
  rw [more_app] at h3
  exact h3
theorem tells_inv {lim : Int} {a : List UInt8} {s : DS} (h : Tells lim a (.ok s)) : DInv lim s := runs_inv h ((ds0_inv lim).more (bits8 a))
theorem tells_bits {lim : Int} {a : List UInt8} {s : DS} (h : Tells lim a (.ok s)) : s.bits.length ≤ 8 * a.length := by
  have := runs_bits h ((ds0_inv lim).more (bits8 a))
  rw [show (ds0.more (bitsOf a)).bits.length = 8 * a.length by show ([] ++ bitsOf a).length = _; rw [List.nil_append, bitsOf_length]] at this
  exact this
theorem runs_ex {lim : Int} : ∀ (n : Nat) (s : DS), muD s ≤ n → DInv lim s → ∃ r, Runs lim s r := by
  intro n
  induction n with
  | zero =>
    intro s hn hI
    cases h : dstep lim s with
    | stop => exact ⟨_, .stop h⟩
    | bad hist e => exact ⟨_, .bad h⟩
    | go t => have := mu_step hI h; omega
  | succ n ih =>
    intro s hn hI
    cases h : dstep lim s with
    | stop => exact ⟨_, .stop h⟩
    | bad hist e => exact ⟨_, .bad h⟩
    | go t =>
      have := mu_step hI h
      obtain ⟨r, hr⟩ := ih t (by omega) (hI.step h)
      exact ⟨r, .go h hr⟩
/-- What a beginning tells is a beginning. -/
theorem tells_pre {lim : Int} {a b : List UInt8} {r q : DRes} (h : Tells lim a r) (h2 : Tells lim (a ++ b) q) : r.hist <+: q.hist ∧ (r.err = 0 ∨ r = q) := by
  cases r with
  | bad hist e => rw [tells_one h2 (tells_bad h)]; exact ⟨List.prefix_rfl, .inr rfl⟩
  | ok s =>
    refine ⟨?_, .inl rfl⟩
    have h3 : Runs lim ((ds0.more (bitsOf a)).more (bitsOf b)) q := by rw [more_app]; exact h2
    obtain ⟨q2, h4⟩ : ∃ q2, Runs lim (s.more (bitsOf b)) q2 := runs_ex _ _ (Nat.le_refl _) ((tells_inv h).more (bits8 b))
    have h5 := runs_one h3 (runs_more h ((ds0_inv lim).more (bits8 a)) (bits8 b) (q := q2) h4)
    rw [h5]
    exact (show (s.more (bitsOf b)).hist <+: q2.hist from runs_pre h4)

end Go.Proofs.Ytdpocnkeokplpaa

namespace Go.Proofs.Ytdpocnkeokplpaa
open Go.RowKit Go.Hal
set_option linter.unusedVariables false
set_option linter.unusedSimpArgs false

/-- A run, step by step. -/
def runN (lim : Int) : Nat → DS → Option DRes
  | 0, _ => none
  | n + 1, s => match dstep lim s with
    | .stop => some (.ok s)
    | .bad h e => some (.bad h e)
    | .go t => runN lim n t
theorem runN_runs {lim : Int} : ∀ (n : Nat) (s : DS) (r : DRes), runN lim n s = some r → Runs lim s r
  | 0, s, r, h => by cases h
  | n + 1, s, r, h => by
    unfold runN at h
    cases hd : dstep lim s with
    | stop => rw [hd] at h; cases h; exact .stop hd
    | bad hist e => rw [hd] at h; cases h; exact .bad hd
    | go t => rw [hd] at h; exact .go hd (runN_runs n t r h)
/-- Whether bytes tell so, with that error and that end. -/
def looks (lim : Int) (n : Nat) (ys hist : List UInt8) (e : Nat) (b : Bool) : Bool := match runN lim n (ds0.more (bitsOf ys)) with
  | some r => r.hist == hist && r.err == e && r.done == b
  | none => false
theorem looks_tells {lim : Int} {n : Nat} {ys hist : List UInt8} {e : Nat} {b : Bool} (h : looks lim n ys hist e b = true) {r : DRes} (hr : Tells lim ys r) : r.hist = hist ∧ r.err = e ∧ r.done = b := by
  unfold looks at h
  cases hq : runN lim n (ds0.more (bitsOf ys)) with
  | none => rw [hq] at h; cases h
  | some q =>
    rw [hq] at h
    simp only [Bool.and_eq_true, beq_iff_eq] at h
    rw [tells_one hr (runN_runs _ _ _ hq)]
    exact ⟨h.1.1, h.1.2, h.2⟩
theorem looks_1 : looks 10 20 [1, 1, 0, 254, 255, 7] [7] 0 true = true := by decide +kernel
theorem looks_2 : looks 10 20 [75, 4, 0] [97] 0 true = true := by decide +kernel
theorem looks_3 : looks 10 20 [7] [] 3 false = true := by decide +kernel

end Go.Proofs.Ytdpocnkeokplpaa

namespace Go.Proofs.Ytdpocnkeokplpaa
open Go.RowKit Go.Hal
set_option linter.unusedVariables false
set_option linter.unusedSimpArgs false

def DOut.Cap (lim : Int) : DOut → Prop
  | .bad h _ => (h.length : Int) ≤ max 0 lim
  | _ => True
theorem cap_take {lim : Int} {n : Nat} {s : DS} {k : Nat → DS → DOut} (h : ∀ v s', s'.hist = s.hist → (k v s').Cap lim) : (takeD n s k).Cap lim := by
  unfold takeD
  split
  · trivial
  · exact h _ _ rfl
theorem cap_word {lim : Int} {o : Option (List Nat)} {s : DS} {k : Nat → DS → DOut} (hp : (s.hist.length : Int) ≤ max 0 lim) (h : ∀ v s', s'.hist = s.hist → (k v s').Cap lim) : (wordD o s k).Cap lim := by
  unfold wordD
  split
  · exact h _ _ rfl
  · split
    · trivial
    · exact hp
theorem cap_tell {lim : Int} {c : UInt8} {s : DS} {k : DS → DOut} (hp : (s.hist.length : Int) ≤ max 0 lim) (h : ∀ s', (s'.hist.length : Int) ≤ max 0 lim → (k s').Cap lim) : (tellD lim c s k).Cap lim := by
  unfold tellD
  split
  · exact hp
  · refine h _ ?_
    show ((s.hist ++ [c]).length : Int) ≤ _
    rw [List.length_append, List.length_singleton]
    omega
theorem cap_lay {lim : Int} {v n : Nat} {s : DS} (hp : (s.hist.length : Int) ≤ max 0 lim) : (layD v n s).Cap lim := by
  unfold layD
  split
  · exact hp
  · trivial
theorem cap_copy {lim : Int} : ∀ (k : Nat) (s : DS), (s.hist.length : Int) ≤ max 0 lim → (copyD lim k s).Cap lim
  | 0, s, h => trivial
  | k + 1, s, h => by
    unfold copyD tellD
    split
    · exact h
    · refine cap_copy k _ ?_
      show ((s.hist ++ [_]).length : Int) ≤ _
      rw [List.length_append, List.length_singleton]
      omega
theorem dstep_cap {lim : Int} {s : DS} (hp : (s.hist.length : Int) ≤ max 0 lim) : (dstep lim s).Cap lim := by
  unfold dstep
  split
  · refine cap_take fun v s' e => ?_
    unfold headD
    split
    · trivial
    · split
      · trivial
      · split
        · trivial
        · show ((s'.hist.length : Nat) : Int) ≤ _; rw [e]; exact hp
  · split
    · trivial
    · unfold sizeD
      refine cap_take fun v s' e => cap_take fun v2 s2 e2 => ?_
      split
      · trivial
      · show ((s2.hist.length : Nat) : Int) ≤ _; rw [e2, e]; exact hp
  · unfold rawD
    split
    · trivial
    · exact cap_take fun v s' e => cap_tell (by rw [e]; exact hp) fun s2 e2 => trivial
  · refine cap_take fun v s' e => ?_
    unfold countsD
    split
    · show ((s'.hist.length : Nat) : Int) ≤ _; rw [e]; exact hp
    · trivial
  · unfold codesD
    split
    · trivial
    · split
      · trivial
      · exact hp
  · unfold lensD
    split
    · generalize codeS (s.row.take s.lits) (some 256) = a
      generalize codeS (s.row.drop s.lits) none = b
      cases a <;> cases b
      · exact hp
      · exact hp
      · exact hp
      · trivial
    · refine cap_word hp fun v s' e => ?_
      split
      · exact cap_lay (by rw [e]; exact hp)
      · split
        · show ((s'.hist.length : Nat) : Int) ≤ _; rw [e]; exact hp
        · trivial
  · exact cap_take fun v s' e => cap_lay (by rw [e]; exact hp)
  · unfold symsD
    refine cap_word hp fun v s' e => ?_
    split
    · exact cap_tell (by rw [e]; exact hp) fun s2 e2 => trivial
    · split
      · trivial
      · split
        · show ((s'.hist.length : Nat) : Int) ≤ _; rw [e]; exact hp
        · trivial
  · exact cap_take fun v s' e => trivial
  · unfold distD
    refine cap_word hp fun v s' e => ?_
    split
    · show ((s'.hist.length : Nat) : Int) ≤ _; rw [e]; exact hp
    · trivial
  · refine cap_take fun v s' e => ?_
    split
    · show ((s'.hist.length : Nat) : Int) ≤ _; rw [e]; exact hp
    · trivial
  · exact cap_copy _ _ hp
  · trivial
theorem runs_cap {lim : Int} {s : DS} {r : DRes} (h : Runs lim s r) (hI : DInv lim s) : (r.hist.length : Int) ≤ max 0 lim := by
  induction h with
  | stop h => exact hI.hist
  | @bad s hist e h =>
    have := dstep_cap hI.hist
    rw [h] at this
    exact this
  | go h _ ih => exact ih (hI.step h)
theorem tells_cap {lim : Int} {ys : List UInt8} {r : DRes} (h : Tells lim ys r) : (r.hist.length : Int) ≤ max 0 lim := runs_cap h ((ds0_inv lim).more (bits8 ys))

end Go.Proofs.Ytdpocnkeokplpaa
