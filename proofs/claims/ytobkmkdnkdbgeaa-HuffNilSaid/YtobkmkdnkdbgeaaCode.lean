/- huff: the words of lengths; what New lays. -/
import Derived.Test.YtobkmkdnkdbgeaaHkey
namespace Go.Proofs.Ytobkmkdnkdbgeaa
open Go.RowKit Go.Hal
set_option linter.unusedVariables false
set_option linter.unusedSimpArgs false

/-- The symbols below s of length n. -/
def symsOf (L : List Nat) (n s : Nat) : List Nat := (List.range s).filter (fun t => L[t]? == some n)
/-- How many they are. -/
def rank (L : List Nat) (n s : Nat) : Nat := (symsOf L n s).length
/-- Behind the last word of length n. -/
def ends (L : List Nat) : Nat → Nat
  | 0 => 0
  | n + 1 => 2 * ends L n + rank L (n + 1) L.length
/-- A symbol's word as a number, its first bit the highest. -/
def codeOf (L : List Nat) (t : Nat) : Nat := 2 * ends L ((L[t]?).getD 0 - 1) + rank L ((L[t]?).getD 0) t
/-- A symbol's word. -/
def wd (L : List Nat) (t : Nat) : Nat × Nat := ((L[t]?).getD 0, rev ((L[t]?).getD 0) (codeOf L t))
/-- In which order symbols get words. -/
def ord (L : List Nat) : Nat → List Nat
  | 0 => []
  | n + 1 => ord L n ++ symsOf L (n + 1) L.length
def D1of (L : List Nat) (done : List Nat) : List ((Nat × Nat) × Value) := done.foldl (fun D t => Hal.put (wd L t) (.int .i64 (t : Nat)) D) []
/-- The beginnings of a word, of less than k bits. -/
def begs (w : Nat × Nat) (D : List ((Nat × Nat) × Value)) (k : Nat) : List ((Nat × Nat) × Value) := (List.range k).foldl (fun D j => Hal.put (j, w.2 % 2 ^ j) (.bool true) D) D
def D2of (L : List Nat) (done : List Nat) : List ((Nat × Nat) × Value) := done.foldl (fun D t => begs (wd L t) D (wd L t).1) []
def wsof (L : List Nat) (done : List Nat) : List (Nat × Nat) := done.foldl (fun ws t => ws.set t (wd L t)) (List.replicate L.length (0, 0))

theorem symsOf_succ (L : List Nat) (n s : Nat) : symsOf L n (s + 1) = if L[s]? = some n then symsOf L n s ++ [s] else symsOf L n s := by
  unfold symsOf
  rw [List.range_succ, List.filter_append]
  by_cases h : L[s]? = some n <;> simp [List.filter_cons, h]
theorem rank_succ (L : List Nat) (n s : Nat) : rank L n (s + 1) = rank L n s + if L[s]? = some n then 1 else 0 := by
  unfold rank
  rw [symsOf_succ]
  split <;> simp
theorem rank_le (L : List Nat) (n s : Nat) : rank L n s ≤ s := by
  unfold rank symsOf
  exact Nat.le_trans (List.length_filter_le _ _) (by simp)
theorem D1of_snoc (L done : List Nat) (t : Nat) : D1of L (done ++ [t]) = Hal.put (wd L t) (.int .i64 (t : Nat)) (D1of L done) := by simp [D1of]
theorem D2of_snoc (L done : List Nat) (t : Nat) : D2of L (done ++ [t]) = begs (wd L t) (D2of L done) (wd L t).1 := by simp [D2of]
theorem wsof_snoc (L done : List Nat) (t : Nat) : wsof L (done ++ [t]) = (wsof L done).set t (wd L t) := by simp [wsof]
theorem begs_succ (w : Nat × Nat) (D : List ((Nat × Nat) × Value)) (k : Nat) : begs w D (k + 1) = Hal.put (k, w.2 % 2 ^ k) (.bool true) (begs w D k) := by simp [begs, List.range_succ]
theorem wsof_length (L done : List Nat) : (wsof L done).length = L.length := by
  unfold wsof
  have h : ∀ (l : List Nat) (ws : List (Nat × Nat)), (l.foldl (fun ws t => ws.set t (wd L t)) ws).length = ws.length := by
    intro l
    induction l with
    | nil => intro ws; rfl
    | cons t r ih => intro ws; simp [ih]
  rw [h]; simp

theorem wd_eq (L : List Nat) (s k : Nat) (h : L[s]? = some (k + 1)) : wd L s = (k + 1, rev (k + 1) (2 * ends L k + rank L (k + 1) s)) := by
  unfold wd codeOf
  simp [h]

/-- What New lays, some of the symbols done. -/
def newRes (L : List Nat) (done : List Nat) (c m1 m2 : Nat) (vw : Value) (D2 : List ((Nat × Nat) × Value)) : List Res :=
  [blk c (.cells (codeC m1 vw m2) 85 (0, 0)), mp encW m1 (D1of L done), sl 88 2 L.length vw (rowC (wsof L done)), mp encW m2 D2]

/-- A code. -/
def code (c : Nat) (L : List Nat) : Res := ex fun x : Nat × Nat × Value => bag (newRes L (ord L 15) c x.1 x.2.1 x.2.2 (D2of L (ord L 15)))

/-- Lengths that are a code's, as New sees it. -/
def okL (L : List Nat) : Prop := (∀ m, m ≤ 15 → ends L m ≤ 2 ^ m) ∧ (ends L 15 = 2 ^ 15 ∨ (D1of L (ord L 15)).length = 0 ∨ ((D1of L (ord L 15)).length ≤ 1 ∧ 1 ∈ L))

theorem madeRow (n : Nat) : (madeCells #[.int .i64 0, .int .i64 0] (n * 2)).toList = rowC (List.replicate n (0, 0)) := by
  refine List.ext_getElem? fun j => ?_
  by_cases hj : j < n * 2
  · have h2 := rowC_get (List.replicate n (0, 0)) (j / 2) (by simp; omega)
    simp only [List.getElem_replicate] at h2
    rcases Nat.mod_two_eq_zero_or_one j with h | h
    · rw [show j / 2 * 2 = j by omega] at h2
      rw [h2.1]
      simp [madeCells, hj, h]
    · rw [show j / 2 * 2 + 1 = j by omega] at h2
      rw [h2.2]
      simp [madeCells, hj, h]
  · rw [List.getElem?_eq_none (by simp [madeCells]; omega), List.getElem?_eq_none (by rw [rowC_length]; simp; omega)]

theorem Try.infoWord : (Try.prog.info? 88).map (fun i => (i.zero, i.size, i.bytes)) = some (some (.agg #[.int .i64 0, .int .i64 0]), 2, 16) := by kernel_rfl

theorem make_words (n : Nat) (hn : n ≤ 288) (w : World) : (Instr.makeSlice 82 (.int .i64 n) (.int .i64 n)).run Try.prog w =
    .ok (.slice (some ⟨w.heap.size, 0, none⟩) n n) (w.alloc (.cells (madeCells #[.int .i64 0, .int .i64 0] (n * 2)) 88)) := by
  obtain ⟨i0, hi, hz0, hz1, hz2⟩ := info_parts Try.infoWord
  have h := run_make (P := Try.prog) w 82 88 i0 _ Try.underlying82 hi hz0 .i64 .i64 n n (by omega) (by omega) (by rw [hz2]; omega) (by omega)
  rw [h, hz1]
  simp [Value.cells]

end Go.Proofs.Ytobkmkdnkdbgeaa
