/- huff.Lengths: what it computes, in plain lists. -/
namespace Go.Hal
set_option linter.unusedVariables false
set_option linter.unusedSimpArgs false

/-- x goes to the left, past all that cost more. -/
def insG {α : Type} (c : α → Int) (x : α) (l : List α) : List α := (l.reverse.dropWhile (fun y => decide (c x < c y))).reverse ++ x :: (l.reverse.takeWhile (fun y => decide (c x < c y))).reverse
/-- In the order of their costs; equal ones stay in their order. -/
def sortG {α : Type} (c : α → Int) (l : List α) : List α := l.foldl (fun acc x => insG c x acc) []

theorem insG_map {α β : Type} (f : α → β) (c : α → Int) (d : β → Int) (h : ∀ x, d (f x) = c x) (x : α) (l : List α) : (insG c x l).map f = insG d (f x) (l.map f) := by
  unfold insG
  have e : ((fun y => decide (d (f x) < d y)) ∘ f) = (fun y => decide (c x < c y)) := by
    funext y; simp [h]
  simp only [List.map_append, List.map_cons, List.map_reverse, ← List.map_reverse, List.dropWhile_map, List.takeWhile_map, e]
theorem sortG_map {α β : Type} (f : α → β) (c : α → Int) (d : β → Int) (h : ∀ x, d (f x) = c x) (l : List α) : (sortG c l).map f = sortG d (l.map f) := by
  unfold sortG
  suffices g : ∀ (l acc : List α), (l.foldl (fun acc x => insG c x acc) acc).map f = (l.map f).foldl (fun acc x => insG d x acc) (acc.map f) by simpa using g l []
  intro l
  induction l with
  | nil => intro acc; rfl
  | cons x r ih => intro acc; simp only [List.foldl_cons, List.map_cons, ih, insG_map f c d h]

theorem mem_insG {α : Type} (c : α → Int) (x y : α) (l : List α) : y ∈ insG c x l ↔ y = x ∨ y ∈ l := by
  unfold insG
  have h : y ∈ l ↔ y ∈ (l.reverse.takeWhile (fun y => decide (c x < c y))) ∨ y ∈ (l.reverse.dropWhile (fun y => decide (c x < c y))) := by
    rw [← List.mem_append, List.takeWhile_append_dropWhile, List.mem_reverse]
  simp only [List.mem_append, List.mem_cons, List.mem_reverse, h]
  constructor
  · rintro (h | h | h)
    · exact .inr (.inr h)
    · exact .inl h
    · exact .inr (.inl h)
  · rintro (h | h | h)
    · exact .inr (.inl h)
    · exact .inr (.inr h)
    · exact .inl h
theorem mem_sortG {α : Type} (c : α → Int) (y : α) (l : List α) : y ∈ sortG c l ↔ y ∈ l := by
  unfold sortG
  suffices h : ∀ (l acc : List α), y ∈ l.foldl (fun acc x => insG c x acc) acc ↔ y ∈ acc ∨ y ∈ l by simpa using h l []
  intro l
  induction l with
  | nil => simp
  | cons z r ih =>
    intro acc
    simp only [List.foldl_cons, ih, mem_insG, List.mem_cons]
    constructor
    · rintro ((h | h) | h)
      · exact .inr (.inl h)
      · exact .inl h
      · exact .inr (.inr h)
    · rintro (h | h | h)
      · exact .inl (.inr h)
      · exact .inl (.inl h)
      · exact .inr h
theorem insG_length {α : Type} (c : α → Int) (x : α) (l : List α) : (insG c x l).length = l.length + 1 := by
  unfold insG
  have h := congrArg List.length (List.takeWhile_append_dropWhile (p := fun y => decide (c x < c y)) (l := l.reverse))
  simp only [List.length_append, List.length_reverse, List.length_cons] at h ⊢
  omega
theorem sortG_length {α : Type} (c : α → Int) (l : List α) : (sortG c l).length = l.length := by
  unfold sortG
  suffices h : ∀ (l acc : List α), (l.foldl (fun acc x => insG c x acc) acc).length = acc.length + l.length by simpa using h l []
  intro l
  induction l with
  | nil => simp
  | cons y r ih => intro acc; simp only [List.foldl_cons, ih, insG_length, List.length_cons]; omega

/-- A parcel: what it costs, and its symbols. -/
abbrev Pc := Int × List Int
/-- Symbols that have a count. -/
def firstM (cs : List Int) : List Pc := (List.range cs.length).filterMap fun s : Nat => match cs[s]? with
  | some n => if 0 < n then some (n, [(s : Int)]) else none
  | none => none
def pairsM : List Pc → List Pc
  | a :: b :: r => (a.1 + b.1, a.2 ++ b.2) :: pairsM r
  | _ => []
def rowM (f : List Pc) : Nat → List Pc
  | 0 => f
  | k + 1 => sortG Prod.fst (f ++ pairsM (rowM f k))
def countM (N : Nat) (l : List Int) : List Int := (List.range N).map fun s : Nat => (l.count (s : Int) : Int)
/-- The lengths. -/
def lensM (cs : List Int) (most : Nat) : List Int :=
  countM cs.length (if (firstM cs).length = 1 then (firstM cs).flatMap (·.2) else ((rowM (sortG Prod.fst (firstM cs)) (most - 1)).take (2 * (firstM cs).length - 2)).flatMap (·.2))

theorem pairsM_length : ∀ l : List Pc, (pairsM l).length = l.length / 2
  | [] => rfl
  | [_] => by simp [pairsM]
  | a :: b :: r => by simp only [pairsM, List.length_cons, pairsM_length r]; omega
theorem rowM_length (f : List Pc) (k : Nat) : (rowM f k).length ≤ 2 * f.length := by
  induction k with
  | zero => simp only [rowM]; omega
  | succ k ih => simp only [rowM, sortG_length, List.length_append, pairsM_length]; omega

/-- What holds of all parcels. -/
def PcOk (N : Nat) (B : Int) (m : Nat) (p : Pc) : Prop := 0 ≤ p.1 ∧ p.1 ≤ B ∧ (1 ≤ p.2.length ∧ p.2.length ≤ m) ∧ ∀ s ∈ p.2, 0 ≤ s ∧ s < N
theorem pairsM_ok (N : Nat) (B : Int) (m : Nat) (hB : 0 ≤ B) : ∀ l : List Pc, (∀ p ∈ l, PcOk N B m p) → ∀ p ∈ pairsM l, PcOk N (2 * B) (2 * m) p
  | [], _ => by simp [pairsM]
  | [_], _ => by simp [pairsM]
  | a :: b :: r, h => by
    intro p hp
    simp only [pairsM, List.mem_cons] at hp
    rcases hp with rfl | hp
    · obtain ⟨a1, a2, a3, a4⟩ := h a (by simp)
      obtain ⟨b1, b2, b3, b4⟩ := h b (by simp)
      refine ⟨by simp only; omega, by simp only; omega, by simp only [List.length_append]; omega, fun s hs => ?_⟩
      rcases List.mem_append.1 hs with hs | hs
      · exact a4 s hs
      · exact b4 s hs
    · exact pairsM_ok N B m hB r (fun p hp => h p (by simp [hp])) p hp
theorem firstM_ok (cs : List Int) (h : ∀ c ∈ cs, c ≤ 2147483648) : ∀ p ∈ firstM cs, PcOk cs.length 2147483648 1 p := by
  intro p hp
  obtain ⟨s, hs, he⟩ := List.mem_filterMap.1 hp
  have hs' := List.mem_range.1 hs
  rw [List.getElem?_eq_getElem hs'] at he
  simp only at he
  split at he
  · cases he
    exact ⟨by simp only; omega, h _ (List.getElem_mem _), by simp, fun s hs => by simp only [List.mem_singleton] at hs; omega⟩
  · cases he
theorem PcOk.mono {N : Nat} {B B' : Int} {m m' : Nat} {p : Pc} (h : PcOk N B m p) (hB : B ≤ B') (hm : m ≤ m') : PcOk N B' m' p := ⟨h.1, by have := h.2.1; omega, ⟨h.2.2.1.1, Nat.le_trans h.2.2.1.2 hm⟩, h.2.2.2⟩
theorem rowM_ok (N : Nat) (f : List Pc) (h : ∀ p ∈ f, PcOk N 2147483648 1 p) (k : Nat) : ∀ p ∈ rowM f k, PcOk N (2147483648 * 2 ^ k) (2 ^ k) p := by
  induction k with
  | zero => simpa [rowM] using h
  | succ k ih =>
    intro p hp
    have h1 : (1 : Int) ≤ 2 ^ k := by exact_mod_cast Nat.one_le_two_pow
    have h2 : 1 ≤ 2 ^ k := Nat.one_le_two_pow
    simp only [rowM, mem_sortG, List.mem_append] at hp
    rcases hp with hp | hp
    · exact (h p hp).mono (by rw [Int.pow_succ]; omega) (by rw [Nat.pow_succ]; omega)
    · have := pairsM_ok N _ _ (by omega) _ ih p hp
      exact this.mono (by rw [Int.pow_succ]; omega) (by rw [Nat.pow_succ]; omega)

theorem filterMap_congr' {α β : Type} {f g : α → Option β} : ∀ l : List α, (∀ x ∈ l, f x = g x) → l.filterMap f = l.filterMap g
  | [], _ => rfl
  | x :: r, h => by
    simp only [List.filterMap_cons, h x (by simp), filterMap_congr' r (fun y hy => h y (by simp [hy]))]
theorem firstM_succ (cs : List Int) (k : Nat) (h : k < cs.length) : firstM (cs.take (k + 1)) = firstM (cs.take k) ++ (if 0 < cs[k] then [(cs[k], [(k : Int)])] else []) := by
  have e1 : (cs.take (k + 1)).length = k + 1 := by simp; omega
  have e2 : (cs.take k).length = k := by simp; omega
  unfold firstM
  rw [e1, e2, List.range_succ, List.filterMap_append]
  congr 1
  · refine filterMap_congr' _ fun s hs => ?_
    have hs' := List.mem_range.1 hs
    rw [List.getElem?_take, List.getElem?_take, if_pos (by omega), if_pos hs']
  · simp only [List.filterMap_cons, List.filterMap_nil]
    rw [List.getElem?_take, if_pos (by omega), List.getElem?_eq_getElem h]
    by_cases h0 : 0 < cs[k] <;> simp [h0]
theorem firstM_length (cs : List Int) : (firstM cs).length ≤ cs.length := by
  unfold firstM
  exact Nat.le_trans (List.length_filterMap_le _ _) (by simp)
theorem firstM_take_length (cs : List Int) (k : Nat) : (firstM (cs.take k)).length ≤ k := Nat.le_trans (firstM_length _) (by simp; omega)

theorem firstM_one (cs : List Int) : ∀ p ∈ firstM cs, ∃ s : Nat, s < cs.length ∧ p.2 = [(s : Int)] := by
  intro p hp
  obtain ⟨s, hs, he⟩ := List.mem_filterMap.1 hp
  have hs' := List.mem_range.1 hs
  rw [List.getElem?_eq_getElem hs'] at he
  simp only at he
  split at he
  · cases he; exact ⟨s, hs', rfl⟩
  · cases he
theorem countM_length (N : Nat) (l : List Int) : (countM N l).length = N := by simp [countM]
theorem countM_nil (N : Nat) : countM N [] = List.replicate N 0 := by
  refine List.ext_getElem (by simp [countM]) (fun i h1 h2 => by simp [countM])
theorem countM_get (N : Nat) (l : List Int) (s : Nat) (hs : s < N) : (countM N l)[s]? = some (l.count (s : Int) : Int) := by
  simp [countM, hs]
theorem countM_snoc (N : Nat) (l : List Int) (s : Nat) (hs : s < N) : countM N (l ++ [(s : Int)]) = (countM N l).set s ((l.count (s : Int) : Int) + 1) := by
  refine List.ext_getElem (by simp [countM]) (fun i h1 h2 => ?_)
  have hi : i < N := by simpa [countM] using h1
  rw [List.getElem_set]
  simp only [countM, List.getElem_map, List.getElem_range, List.count_append, List.count_singleton]
  by_cases h : s = i
  · subst h; simp
  · have : ¬ ((s : Int) == (i : Int)) = true := by simp; omega
    simp only [h, this, if_false]
    simp

theorem pairsM_append : ∀ (a b : List Pc), a.length % 2 = 0 → pairsM (a ++ b) = pairsM a ++ pairsM b
  | [], b, _ => by simp [pairsM]
  | [_], b, h => by simp at h
  | x :: y :: r, b, h => by
    simp only [List.cons_append, pairsM]
    rw [pairsM_append r b (by simp only [List.length_cons] at h; omega)]
theorem pairsM_take_full (l : List Pc) (j : Nat) (h : 2 * j + 1 < l.length) : pairsM (l.take (2 * (j + 1))) = pairsM (l.take (2 * j)) ++ [(l[2 * j].1 + l[2 * j + 1].1, l[2 * j].2 ++ l[2 * j + 1].2)] := by
  rw [show 2 * (j + 1) = 2 * j + 1 + 1 by omega, List.take_succ_eq_append_getElem h, List.take_succ_eq_append_getElem (by omega : 2 * j < l.length), List.append_assoc,
    pairsM_append _ _ (by simp; omega)]
  rfl
theorem pairsM_take_odd (l : List Pc) (j : Nat) (h : l.length = 2 * j + 1) : pairsM (l.take (2 * (j + 1))) = pairsM (l.take (2 * j)) := by
  have hd : (l.drop (2 * j)).length = 1 := by simp; omega
  obtain ⟨x, hx⟩ := List.length_eq_one_iff.1 hd
  have e : l = l.take (2 * j) ++ [x] := by rw [← hx, List.take_append_drop]
  have h2 : pairsM l = pairsM (l.take (2 * j)) := by
    conv => lhs; rw [e]
    rw [pairsM_append _ _ (by simp; omega)]
    simp [pairsM]
  rw [List.take_of_length_le (by omega), h2]

def flatM (l : List Pc) : List Int := l.flatMap (·.2)
theorem flatM_succ (l : List Pc) (i : Nat) (h : i < l.length) : flatM (l.take (i + 1)) = flatM (l.take i) ++ l[i].2 := by
  unfold flatM; rw [List.take_succ_eq_append_getElem h, List.flatMap_append]; simp
theorem flatM_len (l : List Pc) (m : Nat) (h : ∀ p ∈ l, p.2.length ≤ m) : (flatM l).length ≤ l.length * m := by
  induction l with
  | nil => simp [flatM]
  | cons p r ih =>
    have h1 := ih (fun q hq => h q (by simp [hq]))
    have h2 := h p (by simp)
    simp only [flatM, List.flatMap_cons, List.length_append, List.length_cons, Nat.add_mul] at *
    omega

/-- What is refused. -/
def checkM (cs : List Int) (most : Nat) : Nat :=
  if 288 < cs.length ∨ most < 1 ∨ 15 < most then 1 else if ∃ c ∈ cs, c < 0 ∨ 2147483648 < c then 1 else if 2 ^ most < (firstM cs).length then 5 else 0

end Go.Hal
