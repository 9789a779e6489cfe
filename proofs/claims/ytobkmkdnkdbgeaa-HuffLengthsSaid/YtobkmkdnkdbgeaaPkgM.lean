/- huff.Lengths in plain words: the lengths that package-merge tells are a code's. -/
import Derived.Test.YtobkmkdnkdbgeaaQd
namespace Go.Hal
set_option linter.unusedVariables false
set_option linter.unusedSimpArgs false

/-- Two rows laid into one another, each in its own order. -/
inductive Shuf {α : Type} : List α → List α → List α → Prop where
  | nil : Shuf [] [] []
  | left {a b s : List α} (x : α) : Shuf a b s → Shuf (x :: a) b (x :: s)
  | right {a b s : List α} (x : α) : Shuf a b s → Shuf a (x :: b) (x :: s)

theorem Shuf.all_left {α : Type} : ∀ a : List α, Shuf a [] a
  | [] => .nil
  | x :: a => .left x (all_left a)
theorem Shuf.eq_left {α : Type} {a b s : List α} (h : Shuf a b s) (hb : b = []) : s = a := by
  induction h with
  | nil => rfl
  | left x h ih => rw [ih hb]
  | right x h ih => cases hb
theorem Shuf.length {α : Type} {a b s : List α} (h : Shuf a b s) : s.length = a.length + b.length := by
  induction h with
  | nil => rfl
  | left x h ih => simp [ih]; omega
  | right x h ih => simp [ih]; omega
theorem Shuf.append {α : Type} {a b s a' b' s' : List α} (h : Shuf a b s) (h' : Shuf a' b' s') : Shuf (a ++ a') (b ++ b') (s ++ s') := by
  induction h with
  | nil => exact h'
  | left x h ih => exact .left x ih
  | right x h ih => exact .right x ih
theorem Shuf.split {α : Type} : ∀ {a b : List α} (l1 l2 : List α), Shuf a b (l1 ++ l2) → ∃ a1 a2 b1 b2, a = a1 ++ a2 ∧ b = b1 ++ b2 ∧ Shuf a1 b1 l1 ∧ Shuf a2 b2 l2
  | a, b, [], l2, h => ⟨[], a, [], b, rfl, rfl, .nil, h⟩
  | a, b, x :: l1, l2, h => by
    rw [List.cons_append] at h
    cases h with
    | left _ h =>
      obtain ⟨a1, a2, b1, b2, rfl, rfl, h1, h2⟩ := Shuf.split l1 l2 h
      exact ⟨x :: a1, a2, b1, b2, rfl, rfl, .left x h1, h2⟩
    | right _ h =>
      obtain ⟨a1, a2, b1, b2, rfl, rfl, h1, h2⟩ := Shuf.split l1 l2 h
      exact ⟨a1, a2, x :: b1, b2, rfl, rfl, .right x h1, h2⟩
theorem Shuf.perm {α : Type} {a b s : List α} (h : Shuf a b s) : s.Perm (a ++ b) := by
  induction h with
  | nil => exact .refl _
  | left x h ih => exact .cons x ih
  | right x h ih => exact (List.Perm.cons x ih).trans (List.perm_middle.symm)

/-- Rising, as far as costs go. -/
abbrev Ris {α : Type} (c : α → Int) (l : List α) : Prop := l.Pairwise (fun x y => c x ≤ c y)

theorem insG_parts {α : Type} (c : α → Int) (x : α) (l : List α) (hl : Ris c l) : ∃ l1 l2, l = l1 ++ l2 ∧ insG c x l = l1 ++ x :: l2 ∧ (∀ y ∈ l2, c x < c y) ∧ ∀ y ∈ l1, c y ≤ c x := by
  refine ⟨(l.reverse.dropWhile (fun y => decide (c x < c y))).reverse, (l.reverse.takeWhile (fun y => decide (c x < c y))).reverse, ?_, rfl, fun y hy => ?_, ?_⟩
  · rw [← List.reverse_append, List.takeWhile_append_dropWhile, List.reverse_reverse]
  · rw [List.mem_reverse] at hy
    have := List.all_takeWhile (p := fun y => decide (c x < c y)) (l := l.reverse)
    rw [List.all_eq_true] at this
    simpa using this y hy
  · intro y hy
    rw [List.mem_reverse] at hy
    cases hd : l.reverse.dropWhile (fun y => decide (c x < c y)) with
    | nil => rw [hd] at hy; cases hy
    | cons z r =>
      have hz : ¬ c x < c z := by
        have := List.head_dropWhile_not (fun y => decide (c x < c y)) (l := l.reverse) (by rw [hd]; simp)
        simp only [hd, List.head_cons] at this
        simpa using this
      have hr : l.reverse.Pairwise (fun x y => c y ≤ c x) := List.pairwise_reverse.2 hl
      have hs : (z :: r).Pairwise (fun x y => c y ≤ c x) := by rw [← hd]; exact hr.sublist (List.dropWhile_sublist _)
      rw [hd] at hy
      rcases List.mem_cons.1 hy with rfl | hy
      · omega
      · have := (List.pairwise_cons.1 hs).1 y hy
        omega

theorem insG_ris {α : Type} (c : α → Int) (x : α) (l : List α) (hl : Ris c l) : Ris c (insG c x l) := by
  obtain ⟨l1, l2, rfl, he, h2, h1⟩ := insG_parts c x l hl
  rw [he]
  obtain ⟨p1, p2, p3⟩ := List.pairwise_append.1 hl
  refine List.pairwise_append.2 ⟨p1, List.pairwise_cons.2 ⟨fun y hy => Int.le_of_lt (h2 y hy), p2⟩, fun y hy z hz => ?_⟩
  rcases List.mem_cons.1 hz with rfl | hz
  · exact h1 y hy
  · exact p3 y hy z hz
theorem sortG_ris {α : Type} (c : α → Int) (l : List α) : Ris c (sortG c l) := by
  unfold sortG
  suffices h : ∀ (l acc : List α), Ris c acc → Ris c (l.foldl (fun acc x => insG c x acc) acc) from h l [] List.Pairwise.nil
  intro l
  induction l with
  | nil => exact fun acc h => h
  | cons x r ih => exact fun acc h => ih _ (insG_ris c x acc h)
theorem insG_perm {α : Type} (c : α → Int) (x : α) (l : List α) : (insG c x l).Perm (x :: l) := by
  have e : l = (l.reverse.dropWhile (fun y => decide (c x < c y))).reverse ++ (l.reverse.takeWhile (fun y => decide (c x < c y))).reverse := by
    rw [← List.reverse_append, List.takeWhile_append_dropWhile, List.reverse_reverse]
  unfold insG
  refine List.perm_middle.trans (List.Perm.cons x ?_)
  rw [← e]
theorem sortG_perm {α : Type} (c : α → Int) (l : List α) : (sortG c l).Perm l := by
  unfold sortG
  suffices h : ∀ (l acc : List α), (l.foldl (fun acc x => insG c x acc) acc).Perm (acc ++ l) by simpa using h l []
  intro l
  induction l with
  | nil => intro acc; simp
  | cons x r ih =>
    intro acc
    refine (ih _).trans ?_
    refine (List.Perm.append_right r (insG_perm c x acc)).trans ?_
    exact (List.perm_middle).symm

theorem insG_shuf {α : Type} (c : α → Int) {a b s : List α} (h : Shuf a b s) (hs : Ris c s) (x : α) (hx : ∀ y ∈ b, c y ≤ c x) : Shuf a (b ++ [x]) (insG c x s) := by
  obtain ⟨l1, l2, rfl, he, h2, -⟩ := insG_parts c x s hs
  rw [he]
  obtain ⟨a1, a2, b1, b2, rfl, rfl, k1, k2⟩ := h.split l1 l2
  have hb2 : b2 = [] := by
    cases b2 with
    | nil => rfl
    | cons y r =>
      have hm : y ∈ l2 := (k2.perm.mem_iff).2 (by simp)
      have := h2 y hm
      have := hx y (by simp)
      omega
  subst hb2
  have k3 := k1.append (Shuf.right x k2)
  simpa using k3
theorem sortG_shuf {α : Type} (c : α → Int) (a b : List α) (ha : Ris c a) (hb : Ris c b) : Shuf a b (sortG c (a ++ b)) := by
  have key : ∀ (b2 b1 s : List α), Shuf a b1 s → Ris c s → Ris c (b1 ++ b2) → Shuf a (b1 ++ b2) (b2.foldl (fun acc x => insG c x acc) s) := by
    intro b2
    induction b2 with
    | nil => intro b1 s h _ _; simpa using h
    | cons x r ih =>
      intro b1 s h hs hb
      have h1 := insG_shuf c h hs x (fun y hy => (List.pairwise_append.1 hb).2.2 y hy x (by simp))
      have := ih (b1 ++ [x]) _ h1 (insG_ris c x s hs) (by simpa using hb)
      simpa using this
  have ka : sortG c a = a := by
    have : ∀ (a2 a1 : List α), Ris c (a1 ++ a2) → a2.foldl (fun acc x => insG c x acc) a1 = a1 ++ a2 := by
      intro a2
      induction a2 with
      | nil => intro a1 _; simp
      | cons x r ih =>
        intro a1 h
        obtain ⟨p1, p2, p3⟩ := List.pairwise_append.1 h
        obtain ⟨l1, l2, e1, e2, h2, -⟩ := insG_parts c x a1 p1
        have : l2 = [] := by
          cases l2 with
          | nil => rfl
          | cons y t =>
            have := h2 y (by simp)
            have := p3 y (by rw [e1]; simp) x (by simp)
            omega
        subst this
        have e3 : insG c x a1 = a1 ++ [x] := by rw [e2, e1]; simp
        rw [List.foldl_cons, e3, ih _ (by simpa using h)]
        simp
    exact this a [] ha
  have h0 : sortG c (a ++ b) = b.foldl (fun acc x => insG c x acc) a := by
    conv => rhs; rw [← ka]
    unfold sortG
    rw [List.foldl_append]
  rw [h0]
  have := key b [] a (Shuf.all_left a) ha (by simpa using hb)
  simpa using this

theorem pairsM_ris : ∀ l : List Pc, Ris Prod.fst l → Ris Prod.fst (pairsM l)
  | [], _ => .nil
  | [_], _ => .nil
  | x :: y :: r, h => by
    obtain ⟨h1, h2⟩ := List.pairwise_cons.1 h
    obtain ⟨h3, h4⟩ := List.pairwise_cons.1 h2
    refine List.pairwise_cons.2 ⟨fun z hz => ?_, pairsM_ris r h4⟩
    have : ∀ l : List Pc, (∀ p ∈ l, x.1 ≤ p.1 ∧ y.1 ≤ p.1) → ∀ z ∈ pairsM l, x.1 + y.1 ≤ z.1 := by
      intro l
      induction l using pairsM.induct with
      | case1 a b r ih =>
        intro hl z hz
        simp only [pairsM, List.mem_cons] at hz
        rcases hz with rfl | hz
        · have := hl a (by simp)
          have := hl b (by simp)
          simp only; omega
        · exact ih (fun p hp => hl p (by simp [hp])) z hz
      | case2 l h => intro hl z hz; rw [pairsM] at hz; · cases hz
                     · exact h
    exact this r (fun p hp => ⟨h1 p (by simp [hp]), h3 p hp⟩) z hz
theorem rowM_ris (f : List Pc) (hf : Ris Prod.fst f) : ∀ k, Ris Prod.fst (rowM f k)
  | 0 => hf
  | k + 1 => sortG_ris _ _


/-- A leaf's symbol. -/
def sy (p : Pc) : Int := p.2.headD 0
/-- The leaves: each has one symbol of its own, and costs something; rising. -/
structure Leaves (f : List Pc) : Prop where
  one : ∀ p ∈ f, p.2 = [sy p]
  own : (f.map sy).Nodup
  pos : ∀ p ∈ f, 0 < p.1
  ris : Ris Prod.fst f

theorem Leaves.count {f : List Pc} (h : Leaves f) {p : Pc} (hp : p ∈ f) (a b : List Pc) (hf : f = a ++ b) : (flatM a).count (sy p) = if p ∈ a then 1 else 0 := by
  have e : ∀ a : List Pc, (∀ q ∈ a, q.2 = [sy q]) → flatM a = a.map sy := by
    intro a
    induction a with
    | nil => intro _; rfl
    | cons q r ih => intro hq; simp only [flatM, List.flatMap_cons, List.map_cons] at *; rw [hq q (by simp), ih (fun z hz => hq z (by simp [hz]))]; rfl
  rw [e a (fun q hq => h.one q (by rw [hf]; simp [hq]))]
  have hn := h.own
  rw [hf, List.map_append] at hn
  obtain ⟨n1, n2, n3⟩ := List.nodup_append.1 hn
  by_cases hpa : p ∈ a
  · rw [if_pos hpa]
    rw [n1.count, if_pos (List.mem_map_of_mem hpa)]
  · rw [if_neg hpa, List.count_eq_zero]
    intro hm
    have hpb : p ∈ b := by rw [hf] at hp; exact (List.mem_append.1 hp).resolve_left hpa
    exact n3 _ hm _ (List.mem_map_of_mem hpb) rfl

/-- What every parcel of a row costs: more than nothing, and no less than each of its leaves. -/
def Dear (f : List Pc) (q : Pc) : Prop := 0 < q.1 ∧ ∀ p ∈ f, sy p ∈ q.2 → p.1 ≤ q.1
theorem pairs_dear {f : List Pc} : ∀ l : List Pc, (∀ q ∈ l, Dear f q) → ∀ q ∈ pairsM l, 0 < q.1 ∧ ∀ p ∈ f, sy p ∈ q.2 → p.1 < q.1
  | [], _ => by simp [pairsM]
  | [_], _ => by simp [pairsM]
  | a :: b :: r, h => by
    intro q hq
    simp only [pairsM, List.mem_cons] at hq
    rcases hq with rfl | hq
    · have ha := h a (by simp)
      have hb := h b (by simp)
      refine ⟨by have := ha.1; have := hb.1; simp only; omega, fun p hp hs => ?_⟩
      simp only [List.mem_append] at hs
      rcases hs with hs | hs
      · have := ha.2 p hp hs; have := hb.1; simp only; omega
      · have := hb.2 p hp hs; have := ha.1; simp only; omega
    · exact pairs_dear r (fun z hz => h z (by simp [hz])) q hq
theorem leaf_dear {f : List Pc} (h : Leaves f) : ∀ q ∈ f, Dear f q := by
  intro q hq
  refine ⟨h.pos q hq, fun p hp hs => ?_⟩
  rw [h.one q hq, List.mem_singleton] at hs
  have : p = q := by
    obtain ⟨i, hi, rfl⟩ := List.mem_iff_getElem.1 hp
    obtain ⟨j, hj, rfl⟩ := List.mem_iff_getElem.1 hq
    have hi' : i < (f.map sy).length := by simpa using hi
    have hj' : j < (f.map sy).length := by simpa using hj
    have := (List.getElem_inj (h₀ := hi') (h₁ := hj') h.own).1 (by simpa using hs)
    subst this; rfl
  subst this; exact Int.le_refl _
theorem row_dear {f : List Pc} (h : Leaves f) : ∀ k, ∀ q ∈ rowM f k, Dear f q
  | 0 => leaf_dear h
  | k + 1 => fun q hq => by
    simp only [rowM, mem_sortG, List.mem_append] at hq
    rcases hq with hq | hq
    · exact leaf_dear h q hq
    · have := pairs_dear _ (row_dear h k) q hq
      exact ⟨this.1, fun p hp hs => Int.le_of_lt (this.2 p hp hs)⟩

theorem flat_pairs : ∀ (l : List Pc) (q : Nat), q ≤ (pairsM l).length → flatM ((pairsM l).take q) = flatM (l.take (2 * q))
  | _, 0, _ => by simp [flatM]
  | [], q + 1, h => by simp [pairsM] at h
  | [_], q + 1, h => by simp [pairsM] at h
  | a :: b :: r, q + 1, h => by
    have := flat_pairs r q (by simpa [pairsM] using h)
    simp only [pairsM, List.take_succ_cons, flatM, List.flatMap_cons] at *
    rw [show 2 * (q + 1) = 2 * q + 1 + 1 by omega, List.take_succ_cons, List.take_succ_cons, List.flatMap_cons, List.flatMap_cons, this, List.append_assoc]

def widths (f : List Pc) (i : Nat) (L : List Int) : Nat := (f.map fun p => 2 ^ (i + 1) - 2 ^ (i + 1 - L.count (sy p))).sum
theorem sum_map_congr {α : Type} (l : List α) (g g' : α → Nat) (h : ∀ x ∈ l, g x = g' x) : (l.map g).sum = (l.map g').sum := by
  rw [List.map_congr_left h]
theorem sum_map_add {α : Type} (l : List α) (g : α → Nat) (k : Nat) : (l.map fun x => k + g x).sum = l.length * k + (l.map g).sum := by
  induction l with
  | nil => simp
  | cons x r ih => simp only [List.map_cons, List.sum_cons, ih, List.length_cons, Nat.add_mul]; omega

/-- How often each symbol stands among a row's first parcels. -/
theorem row_widths {f : List Pc} (h : Leaves f) : ∀ (i n : Nat), n ≤ (rowM f i).length → (∀ p ∈ f, (flatM ((rowM f i).take n)).count (sy p) ≤ i + 1) ∧ widths f i (flatM ((rowM f i).take n)) = n * 2 ^ i
  | 0, n, hn => by
    have hn : n ≤ f.length := hn
    have hc : ∀ p ∈ f, (flatM (f.take n)).count (sy p) = if p ∈ f.take n then 1 else 0 := fun p hp => h.count hp _ (f.drop n) (List.take_append_drop _ _).symm
    refine ⟨fun p hp => by show (flatM (f.take n)).count (sy p) ≤ 1; rw [hc p hp]; split <;> omega, ?_⟩
    show (f.map fun p => 2 ^ 1 - 2 ^ (1 - (flatM (f.take n)).count (sy p))).sum = n * 2 ^ 0
    have e1 : (f.map fun p => 2 ^ 1 - 2 ^ (1 - (flatM (f.take n)).count (sy p))).sum = ((f.take n).map fun p => 2 ^ 1 - 2 ^ (1 - (flatM (f.take n)).count (sy p))).sum + ((f.drop n).map fun p => 2 ^ 1 - 2 ^ (1 - (flatM (f.take n)).count (sy p))).sum := by
      rw [← List.sum_append, ← List.map_append, List.take_append_drop]
    have hnd : f.Nodup := by
      have := h.own
      exact List.Pairwise.of_map sy (fun a b hab e => hab (by rw [e])) this
    rw [e1, sum_map_congr (f.take n) _ (fun _ => 1 + 0), sum_map_add, sum_map_congr (f.drop n) _ (fun _ => 0)]
    · have z : ∀ l : List Pc, (l.map fun _ => (0 : Nat)).sum = 0 := fun l => by induction l with
        | nil => rfl
        | cons x r ih => simpa using ih
      rw [z, z, List.length_take, Nat.min_eq_left hn]; simp
    · intro p hp
      rw [hc p (List.mem_of_mem_drop hp), if_neg]
      rw [← List.take_append_drop n f] at hnd
      exact fun hm => (List.nodup_append.1 hnd).2.2 p hm p hp rfl
    · intro p hp
      rw [hc p (List.mem_of_mem_take hp), if_pos hp]
  | i + 1, n, hn => by
    have hR := rowM_ris f h.ris i
    have hsh : Shuf f (pairsM (rowM f i)) (rowM f (i + 1)) := sortG_shuf _ _ _ h.ris (pairsM_ris _ hR)
    have hris : Ris Prod.fst (rowM f (i + 1)) := rowM_ris f h.ris (i + 1)
    have hcat := List.take_append_drop n (rowM f (i + 1))
    rw [← hcat] at hsh hris
    obtain ⟨a1, a2, b1, b2, hf, hb, k1, k2⟩ := hsh.split _ _
    have hl : n = a1.length + b1.length := by have := k1.length; rw [List.length_take] at this; omega
    have hb1 : b1 = (pairsM (rowM f i)).take b1.length := by rw [hb]; simp
    have hq : b1.length ≤ (pairsM (rowM f i)).length := by rw [hb]; simp
    have hq2 : 2 * b1.length ≤ (rowM f i).length := by rw [pairsM_length] at hq; omega
    obtain ⟨c1, c2⟩ := row_widths h i (2 * b1.length) hq2
    have hfl := flat_pairs (rowM f i) b1.length hq
    rw [← hb1] at hfl
    have hcnt : ∀ p ∈ f, (flatM ((rowM f (i + 1)).take n)).count (sy p) = (if p ∈ a1 then 1 else 0) + (flatM ((rowM f i).take (2 * b1.length))).count (sy p) := by
      intro p hp
      have hpm : (flatM ((rowM f (i + 1)).take n)).Perm (flatM (a1 ++ b1)) := k1.perm.flatMap_right _
      rw [hpm.count_eq, ← hfl, ← h.count hp a1 a2 hf]
      unfold flatM
      rw [List.flatMap_append, List.count_append]
    have hzero : ∀ p ∈ f, p ∉ a1 → (flatM ((rowM f i).take (2 * b1.length))).count (sy p) = 0 := by
      intro p hp hpa
      rw [← hfl, List.count_eq_zero]
      intro hm
      obtain ⟨q, hqb, hs⟩ := List.mem_flatMap.1 hm
      have hd := (pairs_dear _ (row_dear h i) q (by rw [hb]; simp [hqb])).2 p hp hs
      have hp2 : p ∈ a2 := by rw [hf] at hp; exact (List.mem_append.1 hp).resolve_left hpa
      have := (List.pairwise_append.1 hris).2.2 q ((k1.perm.mem_iff).2 (by simp [hqb])) p ((k2.perm.mem_iff).2 (by simp [hp2]))
      omega
    refine ⟨fun p hp => ?_, ?_⟩
    · rw [hcnt p hp]
      have := c1 p hp
      by_cases hpa : p ∈ a1
      · rw [if_pos hpa]; omega
      · rw [if_neg hpa]; omega
    · have hnd : f.Nodup := List.Pairwise.of_map sy (fun a b hab e => hab (by rw [e])) h.own
      have key : widths f (i + 1) (flatM ((rowM f (i + 1)).take n)) = a1.length * 2 ^ (i + 1) + widths f i (flatM ((rowM f i).take (2 * b1.length))) := by
        unfold widths
        have sp : ∀ g : Pc → Nat, (f.map g).sum = (a1.map g).sum + (a2.map g).sum := fun g => by rw [← List.sum_append, ← List.map_append, ← hf]
        rw [sp, sp (fun p => 2 ^ (i + 1) - 2 ^ (i + 1 - (flatM ((rowM f i).take (2 * b1.length))).count (sy p)))]
        rw [sum_map_congr a1 _ (fun p => 2 ^ (i + 1) + (2 ^ (i + 1) - 2 ^ (i + 1 - (flatM ((rowM f i).take (2 * b1.length))).count (sy p)))), sum_map_add, sum_map_congr a2 _ (fun p => 2 ^ (i + 1) - 2 ^ (i + 1 - (flatM ((rowM f i).take (2 * b1.length))).count (sy p)))]
        · omega
        · intro p hp
          have hpf : p ∈ f := by rw [hf]; simp [hp]
          have hpa : p ∉ a1 := by
            rw [hf] at hnd
            exact fun hm => (List.nodup_append.1 hnd).2.2 p hm p hp rfl
          rw [hcnt p hpf, if_neg hpa, hzero p hpf hpa]
          simp
        · intro p hp
          have hpf : p ∈ f := by rw [hf]; simp [hp]
          rw [hcnt p hpf, if_pos hp]
          have hc := c1 p hpf
          generalize (flatM ((rowM f i).take (2 * b1.length))).count (sy p) = c at hc ⊢
          have e1 : i + 1 + 1 - (1 + c) = i + 1 - c := by omega
          have e2 : 2 ^ (i + 1 - c) ≤ 2 ^ (i + 1) := Nat.pow_le_pow_right (by omega) (by omega)
          rw [e1, Nat.pow_succ 2 (i + 1)]
          omega
      rw [key, c2, hl, Nat.add_mul]
      congr 1
      rw [Nat.pow_succ, Nat.mul_comm 2, Nat.mul_assoc, Nat.mul_comm 2]

theorem row_long (f : List Pc) : ∀ i, f.length ≠ 0 → (2 * f.length - (rowM f i).length - 1) * 2 ^ i < f.length ∧ (rowM f i).length ≤ 2 * f.length
  | 0, h => by simp only [rowM, Nat.pow_zero, Nat.mul_one]; omega
  | i + 1, h => by
    obtain ⟨h1, h2⟩ := row_long f i h
    have hl : (rowM f (i + 1)).length = f.length + (rowM f i).length / 2 := by simp only [rowM, sortG_length, List.length_append, pairsM_length]
    refine ⟨?_, by omega⟩
    have : (2 * f.length - (rowM f (i + 1)).length - 1) * 2 ≤ 2 * f.length - (rowM f i).length - 1 := by omega
    calc (2 * f.length - (rowM f (i + 1)).length - 1) * 2 ^ (i + 1) = (2 * f.length - (rowM f (i + 1)).length - 1) * 2 * 2 ^ i := by rw [Nat.pow_succ, Nat.mul_comm (2 ^ i) 2, Nat.mul_assoc]
      _ ≤ (2 * f.length - (rowM f i).length - 1) * 2 ^ i := Nat.mul_le_mul_right _ this
      _ < f.length := h1
theorem row_enough (f : List Pc) (i : Nat) (hk : 2 ≤ f.length) (h : f.length ≤ 2 ^ (i + 1)) : 2 * f.length - 2 ≤ (rowM f i).length := by
  obtain ⟨h1, h2⟩ := row_long f i (by omega)
  have h3 : (2 * f.length - (rowM f i).length - 1) * 2 ^ i < 2 * 2 ^ i := by rw [Nat.pow_succ] at h; omega
  have := Nat.lt_of_mul_lt_mul_right h3
  omega

/-- The lengths that package-merge tells, of leaves. -/
def lenP (f : List Pc) (most : Nat) (p : Pc) : Nat := (flatM ((rowM f (most - 1)).take (2 * f.length - 2))).count (sy p)
theorem kraft {f : List Pc} (h : Leaves f) (hk : 2 ≤ f.length) (most : Nat) (hm : 1 ≤ most) (hk2 : f.length ≤ 2 ^ most) :
    (∀ p ∈ f, 1 ≤ lenP f most p ∧ lenP f most p ≤ most) ∧ (f.map fun p => 2 ^ (most - lenP f most p)).sum = 2 ^ most := by
  obtain ⟨m, rfl⟩ : ∃ m, most = m + 1 := ⟨most - 1, by omega⟩
  obtain ⟨c1, c2⟩ := row_widths h m (2 * f.length - 2) (row_enough f m hk hk2)
  have c1' : ∀ p ∈ f, lenP f (m + 1) p ≤ m + 1 := c1
  have hsum : (f.map fun p => 2 ^ (m + 1 - lenP f (m + 1) p)).sum + (f.map fun p => 2 ^ (m + 1) - 2 ^ (m + 1 - lenP f (m + 1) p)).sum = f.length * 2 ^ (m + 1) := by
    have : ∀ l : List Pc, (l.map fun p => 2 ^ (m + 1 - lenP f (m + 1) p)).sum + (l.map fun p => 2 ^ (m + 1) - 2 ^ (m + 1 - lenP f (m + 1) p)).sum = l.length * 2 ^ (m + 1) := by
      intro l
      induction l with
      | nil => simp
      | cons x r ih =>
        have e2 : 2 ^ (m + 1 - lenP f (m + 1) x) ≤ 2 ^ (m + 1) := Nat.pow_le_pow_right (by omega) (by omega)
        simp only [List.map_cons, List.sum_cons, List.length_cons, Nat.add_mul]
        omega
    exact this f
  have c2' : (f.map fun p => 2 ^ (m + 1) - 2 ^ (m + 1 - lenP f (m + 1) p)).sum = (2 * f.length - 2) * 2 ^ m := c2
  have htot : (f.map fun p => 2 ^ (m + 1 - lenP f (m + 1) p)).sum = 2 ^ (m + 1) := by
    rw [c2'] at hsum
    have e : f.length * 2 ^ (m + 1) = (2 * f.length - 2) * 2 ^ m + 2 ^ (m + 1) := by
      obtain ⟨j, hj⟩ : ∃ j, f.length = j + 1 := ⟨f.length - 1, by omega⟩
      rw [hj, show 2 * (j + 1) - 2 = 2 * j by omega, Nat.pow_succ, Nat.add_mul, Nat.mul_comm 2 j, Nat.mul_assoc j 2, Nat.mul_comm 2 (2 ^ m)]
      omega
    omega
  refine ⟨fun p hp => ⟨?_, c1' p hp⟩, htot⟩
  rcases Nat.eq_zero_or_pos (lenP f (m + 1) p) with h0 | h0
  · exfalso
    obtain ⟨l1, l2, rfl⟩ := List.append_of_mem hp
    have hpos : ∀ l : List Pc, l.length ≤ (l.map fun q => 2 ^ (m + 1 - lenP (l1 ++ p :: l2) (m + 1) q)).sum := by
      intro l
      induction l with
      | nil => simp
      | cons x r ih =>
        have : 0 < 2 ^ (m + 1 - lenP (l1 ++ p :: l2) (m + 1) x) := Nat.two_pow_pos _
        simp only [List.map_cons, List.sum_cons, List.length_cons]
        omega
    have p1 := hpos l1
    have p2 := hpos l2
    rw [List.map_append, List.map_cons, List.sum_append, List.sum_cons, h0] at htot
    simp only [List.length_append, List.length_cons, Nat.sub_zero] at hk htot
    omega
  · exact h0

/-- What the parcels cost is what their symbols cost. -/
def valL (val : Int → Int) (l : List Int) : Int := (l.map val).sum
theorem valL_append (val : Int → Int) (a b : List Int) : valL val (a ++ b) = valL val a + valL val b := by simp [valL, List.sum_append]
theorem pairs_val (val : Int → Int) : ∀ l : List Pc, (∀ q ∈ l, q.1 = valL val q.2) → ∀ q ∈ pairsM l, q.1 = valL val q.2
  | [], _ => by simp [pairsM]
  | [_], _ => by simp [pairsM]
  | a :: b :: r, h => by
    intro q hq
    simp only [pairsM, List.mem_cons] at hq
    rcases hq with rfl | hq
    · simp only [valL_append, h a (by simp), h b (by simp)]
    · exact pairs_val val r (fun z hz => h z (by simp [hz])) q hq
theorem row_val (val : Int → Int) (f : List Pc) (h : ∀ q ∈ f, q.1 = valL val q.2) : ∀ k, ∀ q ∈ rowM f k, q.1 = valL val q.2
  | 0 => h
  | k + 1 => fun q hq => by
    simp only [rowM, mem_sortG, List.mem_append] at hq
    rcases hq with hq | hq
    · exact h q hq
    · exact pairs_val val _ (row_val val f h k) q hq
theorem flat_val (val : Int → Int) : ∀ l : List Pc, (∀ q ∈ l, q.1 = valL val q.2) → valL val (flatM l) = (l.map Prod.fst).sum
  | [], _ => rfl
  | q :: r, h => by
    simp only [flatM, List.flatMap_cons, valL_append, List.map_cons, List.sum_cons]
    rw [← h q (by simp), ← flat_val val r (fun z hz => h z (by simp [hz]))]
    rfl
end Go.Hal
