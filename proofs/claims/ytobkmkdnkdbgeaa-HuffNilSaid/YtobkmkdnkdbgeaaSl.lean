/- Slices as resources: reading, making, appending. -/
import Derived.Test.YtobkmkdnkdbgeaaSat
import Derived.WalkKit
import Derived.WalkSpells
import Derived.WalkLawsBesides
import Derived.Lib.Hide
namespace Go.Hal
open Go.RowKit
set_option linter.unusedVariables false
set_option linter.unusedSimpArgs false

/-- v is a slice of n elements (each of so many cells) that reads xs; its array, if it has capacity, is one of F's blocks. -/
def SlAt (F : Nat → Prop) (w : World) (e : TypeId) (size n : Nat) (v : Value) (xs : List Value) : Prop :=
  ∃ ao cap, v = .slice ao n cap ∧ n ≤ cap ∧ cap ≤ maxLen ∧ xs.length = n * size ∧
    (0 < cap → ∃ b off cur, ao = some ⟨b, off, none⟩ ∧ F b ∧ w.heap[b]? = some (.cells cur e (0, 0)) ∧ off + cap * size ≤ cur.size ∧ ∀ j u, xs[j]? = some u → cur[off + j]? = some u)

/-- .. wherever it lies. -/
def SlR (w : World) (e : TypeId) (size n : Nat) (v : Value) (xs : List Value) : Prop :=
  ∃ ao cap, v = .slice ao n cap ∧ n ≤ cap ∧ cap ≤ maxLen ∧ xs.length = n * size ∧
    (0 < n * size → ∃ b off, ao = some ⟨b, off, none⟩ ∧ b < w.heap.size ∧ ∀ j u, xs[j]? = some u → w.cell? ⟨b, off + j, none⟩ = some u)

theorem SlAt.read {F : Nat → Prop} {w : World} {e : TypeId} {size n : Nat} {v : Value} {xs : List Value} (h : SlAt F w e size n v xs) : SlR w e size n v xs := by
  obtain ⟨ao, cap, rfl, h1, h2, h3, h4⟩ := h
  refine ⟨ao, cap, rfl, h1, h2, h3, fun hn => ?_⟩
  obtain ⟨b, off, cur, r1, r2, r3, r4, r5⟩ := h4 (by have := Nat.pos_of_mul_pos_right hn; omega)
  refine ⟨b, off, r1, (Array.getElem?_eq_some_iff.1 r3).1, fun j u hu => ?_⟩
  rw [cell_of_row w b _ cur e (0, 0) r3]
  exact r5 j u hu

theorem SlR.len {w : World} {e : TypeId} {size n : Nat} {v : Value} {xs : List Value} (h : SlR w e size n v xs) : xs.length = n * size := by
  obtain ⟨ao, cap, rfl, h1, h2, h3, h4⟩ := h; exact h3

/-- What is read stays read, while its block stays. -/
theorem SlR.below {w w' : World} {B : Nat} {e : TypeId} {size n : Nat} {v : Value} {xs : List Value} (h : SlR w e size n v xs) (hb : Below w.heap.size w w') : SlR w' e size n v xs := by
  obtain ⟨ao, cap, rfl, h1, h2, h3, h4⟩ := h
  refine ⟨ao, cap, rfl, h1, h2, h3, fun hn => ?_⟩
  obtain ⟨b, off, r1, r2, r3⟩ := h4 hn
  exact ⟨b, off, r1, Nat.lt_of_lt_of_le r2 hb.size, fun j u hu => by rw [hb.cell (p := ⟨b, off + j, none⟩) r2]; exact r3 j u hu⟩

theorem SlR.nil {w : World} {e : TypeId} {size : Nat} (ao : Option Addr) (cap : Nat) (hc : cap ≤ maxLen) : SlR w e size 0 (.slice ao 0 cap) [] :=
  ⟨ao, cap, rfl, Nat.zero_le _, hc, by simp, fun h => by simp at h⟩

/-- A slice. -/
def sl (e : TypeId) (size n : Nat) (v : Value) (xs : List Value) : Res where
  P F w := SlAt F w e size n v xs
  carry F F' w w' := by
    rintro ⟨ao, cap, rfl, h1, h2, h3, h4⟩ hc
    refine ⟨ao, cap, rfl, h1, h2, h3, fun hn => ?_⟩
    obtain ⟨b, off, cur, r1, r2, r3, r4, r5⟩ := h4 hn
    obtain ⟨c1, c2⟩ := hc.block b (Array.getElem?_eq_some_iff.1 r3).1 r2
    exact ⟨b, off, cur, r1, c1, c2.trans r3, r4, r5⟩

theorem Sat.sl_read {w : World} {e : TypeId} {size n : Nat} {v : Value} {xs : List Value} {Rs : List Res} (hS : Sat w (sl e size n v xs :: Rs)) : SlR w e size n v xs := hS.first.choose_spec.read

theorem SlAt.of_owns {w : World} {F : Nat → Prop} {base : Nat} {e : TypeId} {size n : Nat} {v : Value} {xs : List Value} (h : w.ownsRow base e size v n xs) (hF : ∀ k, base ≤ k → F k) : SlAt F w e size n v xs := by
  obtain ⟨h1, ⟨rfl, rfl⟩ | ⟨g, cap, cur, rfl, hb, hg, hn, hc, hs, ht⟩⟩ := h
  · exact ⟨none, 0, rfl, Nat.le_refl _, Nat.zero_le _, h1, fun h => by simp at h⟩
  · refine ⟨_, cap, rfl, hn, hc, h1, fun _ => ⟨g, 0, cur, rfl, hF g hb, hg, by omega, fun j u hu => ?_⟩⟩
    rw [← ht, List.getElem?_take] at hu
    split at hu
    · simpa using hu
    · cases hu

/-- The empty slice without memory. -/
theorem Sat.sl_nil {w : World} {Rs : List Res} (hS : Sat w Rs) (e : TypeId) (size : Nat) (ao : Option Addr) : Sat w (sl e size 0 (.slice ao 0 0) [] :: Rs) := by
  obtain ⟨own, ho⟩ := hS
  refine ⟨fun k => own k + 1, fun i T hi => ?_⟩
  match i, hi with
  | 0, hi =>
    simp only [List.getElem?_cons_zero, Option.some.injEq] at hi
    subst hi
    exact ⟨ao, 0, rfl, Nat.le_refl _, Nat.zero_le _, by simp, fun h => by simp at h⟩
  | i + 1, hi => exact T.carry _ _ _ _ (ho i T hi) (Carry.same (fun k hk => by have hk' : own k = i := hk; show own k + 1 = i + 1; omega))

/-- A made row. -/
theorem Sat.sl_made {w : World} {Rs : List Res} {e : TypeId} {size n cap : Nat} {cur : Array Value} {xs : List Value} (hS : Sat w Rs) (hn : n ≤ cap) (hm : cap ≤ maxLen) (hl : xs.length = n * size) (hs : cap * size ≤ cur.size) (hx : ∀ (j : Nat) (u : Value), xs[j]? = some u → cur[j]? = some u) :
    Sat (w.alloc (.cells cur e)) (sl e size n (.slice (some ⟨w.heap.size, 0, none⟩) n cap) xs :: Rs) := by
  have h1 := hS.alloc (.cells cur e)
  refine h1.conv (fun F hF => ⟨_, cap, rfl, hn, hm, hl, fun _ => ⟨_, 0, cur, rfl, hF.1, hF.2, by omega, fun j u hu => by simpa using hx j u hu⟩⟩)

theorem sl_owns (e : TypeId) (size n b off cap : Nat) (xs : List Value) (hn : 0 < n) : (sl e size n (.slice (some ⟨b, off, none⟩) n cap) xs).owns b := by
  rintro F w ⟨ao, cap', heq, h1, h2, h3, h4⟩
  simp only [Value.slice.injEq, true_and] at heq
  obtain ⟨rfl, rfl⟩ := heq
  obtain ⟨b', off', cur, heq, r2, -⟩ := h4 (by omega)
  simp only [Option.some.injEq, Addr.mk.injEq, and_true] at heq
  obtain ⟨rfl, rfl⟩ := heq
  exact r2

/-- A cell of the slice's own is written. -/
theorem Sat.sl_set {w : World} {e : TypeId} {size n cap b off : Nat} {xs : List Value} {Rs : List Res} (hS : Sat w (sl e size n (.slice (some ⟨b, off, none⟩) n cap) xs :: Rs)) (j : Nat) (hj : j < xs.length) (u : Value) :
    Sat (w.setCell ⟨b, off + j, none⟩ u) (sl e size n (.slice (some ⟨b, off, none⟩) n cap) (xs.set j u) :: Rs) := by
  refine hS.upd (fun F hF => ?_)
  obtain ⟨ao, cap', heq, h1, h2, h3, h4⟩ := hF
  simp only [Value.slice.injEq, true_and] at heq
  obtain ⟨rfl, rfl⟩ := heq
  have hc : 0 < cap := by
    rcases Nat.eq_zero_or_pos cap with h0 | h0
    · subst h0; obtain rfl : n = 0 := by omega
      rw [Nat.zero_mul] at h3; omega
    · exact h0
  obtain ⟨b', off', cur, heq, r2, r3, r4, r5⟩ := h4 hc
  simp only [Option.some.injEq, Addr.mk.injEq, and_true] at heq
  obtain ⟨rfl, rfl⟩ := heq
  refine ⟨(Mods.refl F w).setCell (.inl r2) u, fun F' f1 _ => ⟨_, cap, rfl, h1, h2, by simpa using h3, fun _ => ⟨b, off, cur.setIfInBounds (off + j) u, rfl, f1 _ r2, ?_, by simpa using r4, fun i x hx => ?_⟩⟩⟩
  · simp [World.setCell, Array.getElem?_modify, r3]
  · rw [List.getElem?_set] at hx
    by_cases hij : j = i
    · subst hij
      simp only [if_true, hj] at hx
      have hl : off + j < cur.size := by
        have := Nat.mul_le_mul_right size h1
        omega
      rw [Array.getElem?_setIfInBounds_self_of_lt hl]
      exact hx
    · simp only [hij, if_false] at hx
      rw [Array.getElem?_setIfInBounds_ne (by omega)]
      exact r5 i x hx

/-- The address and the cells of a slice that is not empty. -/
theorem Sat.sl_cells {w : World} {e : TypeId} {size n : Nat} {v : Value} {xs : List Value} {Rs : List Res} (hS : Sat w (sl e size n v xs :: Rs)) (hn : 0 < n) :
    ∃ b off cap, v = .slice (some ⟨b, off, none⟩) n cap ∧ n ≤ cap ∧ cap ≤ maxLen ∧ b < w.heap.size ∧ (∀ (j : Nat) (u : Value), xs[j]? = some u → w.cell? ⟨b, off + j, none⟩ = some u) ∧ ∀ j, w.frozen? ⟨b, off + j, none⟩ = false := by
  obtain ⟨F, ao, cap, rfl, h1, h2, h3, h4⟩ := hS.first
  obtain ⟨b, off, cur, rfl, r2, r3, r4, r5⟩ := h4 (by omega)
  exact ⟨b, off, cap, rfl, h1, h2, (Array.getElem?_eq_some_iff.1 r3).1, fun j u hu => by rw [cell_of_row w b _ cur e (0, 0) r3]; exact r5 j u hu, fun j => frozen_of_row w b _ cur e r3⟩

section
variable {P : Program}

/-- WHAT append COMES TO: a slice that is the call's own, and something behind it. -/
theorem run_append_sl (w : World) (t tx ty e : TypeId) (i : TypeInfo) (z : Value) (size bytes : Nat) (h1 : P.underlying t = some (.slice e)) (h2 : P.info? e = some i) (h3 : i.zero = some z) (h4 : i.size = size) (h5 : i.bytes = bytes) (h6 : z.cells.size = size) (h7 : 0 < size)
    (v : Value) (n : Nat) (xs : List Value) (Rs : List Res) (hS : Sat w (sl e size n v xs :: Rs)) (x : Value) (m : Nat) (news : List Value) (hsrc : Src P size tx x m news w)
    (b1 : n + m ≤ maxLen) (b2 : (n + m) * bytes ≤ 140737488355328) :
    ∃ v' w', (Builtin.append_ #[t, tx] ty #[v, x]).run P w = .ok v' w' ∧ Sat w' (sl e size (n + m) v' (xs ++ news) :: Rs) := by
  subst h4
  subst h5
  have hlen : (xs ++ news).length = (n + m) * i.size := by rw [List.length_append, hsrc.newsLen, hS.sl_read.len, Nat.add_mul]
  obtain ⟨F, ao, cap, rfl, c1, c2, c3, c4⟩ := hS.first
  by_cases hr : n + m ≤ cap
  · rcases Nat.eq_zero_or_pos cap with hc0 | hc0
    · subst hc0
      obtain rfl : n = 0 := by omega
      obtain rfl : m = 0 := by omega
      obtain rfl : news = [] := List.eq_nil_of_length_eq_zero (by simpa using hsrc.newsLen)
      refine ⟨.slice ao 0 0, w, ?_, by simpa using hS⟩
      have hcells := hsrc.cells
      have hz : (storeCells · []) = fun _ => (pure () : Sem Unit) := rfl
      rcases hsrc.kind with ⟨e', hk⟩ | hk <;>
        (cases ao <;> simp [Builtin.append_, run_underlying h1, run_underlying hk, sizeOf, typeInfo, h2, hsrc.len, hcells, storeCells])
    · obtain ⟨b, off, cur, rfl, hF, hb, hcs, hx⟩ := c4 hc0
      have hmn : (n + m) * i.size ≤ cap * i.size := Nat.mul_le_mul_right _ hr
      have hnl : news.length = m * i.size := hsrc.newsLen
      rw [Nat.add_mul] at hmn
      have hcell : ∀ j, j < news.length → (w.cell? ⟨b, off + n * i.size + j, none⟩).isSome = true := fun j hj => by
        rw [cell_of_row w b _ cur e (0, 0) hb, Array.getElem?_eq_getElem (by omega)]; rfl
      refine ⟨_, _, run_append_room_src (P := P) w t tx ty e i h1 h2 b off n cap x m news hsrc hr hcell (fun j hj => frozen_of_row w b _ cur e hb), ?_⟩
      refine hS.upd (fun F0 hF0 => ?_)
      obtain ⟨ao', cap', heq, -, -, -, d4⟩ := hF0
      simp only [Value.slice.injEq, true_and] at heq
      obtain ⟨rfl, rfl⟩ := heq
      obtain ⟨b', off', cur', heq, hF0, hb', -, -⟩ := d4 hc0
      simp only [Option.some.injEq, Addr.mk.injEq, and_true] at heq
      obtain ⟨rfl, rfl⟩ := heq
      -- the block behind the stores
      have key : ∀ (vs : List Value) (o : Nat) (w : World) (cur : Array Value), w.heap[b]? = some (.cells cur e (0, 0)) → o + vs.length ≤ cur.size →
          Mods F0 w (w.setCells b o vs) ∧ ∃ cur', (w.setCells b o vs).heap[b]? = some (.cells cur' e (0, 0)) ∧ cur'.size = cur.size ∧ (∀ j, j < o ∨ o + vs.length ≤ j → cur'[j]? = cur[j]?) ∧ ∀ j, j < vs.length → cur'[o + j]? = vs[j]? := by
        intro vs
        induction vs with
        | nil => intro o w cur hb _; exact ⟨Mods.refl _ _, cur, hb, rfl, fun _ _ => rfl, fun j hj => by simp at hj⟩
        | cons u r ih =>
          intro o w cur hb ho
          simp only [List.length_cons] at ho
          have hb1 : (w.setCell ⟨b, o, none⟩ u).heap[b]? = some (.cells (cur.setIfInBounds o u) e (0, 0)) := by simp [World.setCell, Array.getElem?_modify, hb]
          obtain ⟨g1, cur2, g2, g3, g4, g5⟩ := ih (o + 1) _ _ hb1 (by simp; omega)
          refine ⟨((Mods.refl F0 w).setCell (.inl hF0) u).trans g1, cur2, g2, by simpa using g3, fun j hj => ?_, fun j hj => ?_⟩
          · rw [g4 j (by simp at hj; omega), Array.getElem?_setIfInBounds_ne (by simp at hj; omega)]
          · match j with
            | 0 => rw [g4 _ (.inl (by omega)), Nat.add_zero, Array.getElem?_setIfInBounds_self_of_lt (by omega)]; rfl
            | j + 1 => rw [show o + (j + 1) = o + 1 + j by omega, g5 j (by simpa using hj)]; simp
      obtain ⟨g1, cur2, g2, g3, g4, g5⟩ := key news (off + n * i.size) w cur hb (by omega)
      refine ⟨g1, fun F' f1 _ => ⟨_, cap, rfl, hr, c2, hlen, fun _ => ⟨b, off, cur2, rfl, f1 _ hF0, g2, by omega, fun j u hu => ?_⟩⟩⟩
      by_cases hj : j < xs.length
      · rw [List.getElem?_append_left hj] at hu
        rw [g4 _ (.inl (by omega))]
        exact hx j u hu
      · rw [List.getElem?_append_right (by omega)] at hu
        have := g5 (j - xs.length) (List.getElem?_eq_some_iff.1 hu).1
        rw [show off + n * i.size + (j - xs.length) = off + j by omega] at this
        rw [this]; exact hu
  · have hold : (Builtin.firstCells i.size n (.slice ao n cap)).run P w.drew = .ok xs.toArray w.drew := by
      rcases Nat.eq_zero_or_pos cap with hc0 | hc0
      · subst hc0
        obtain rfl : n = 0 := by omega
        obtain rfl : xs = [] := List.eq_nil_of_length_eq_zero (by simpa using c3)
        cases ao with
        | none => exact run_firstCells_none w.drew _ _ _ _
        | some a => exact run_firstCells_some w.drew i.size 0 a 0 0 [] (by simp) (fun j v h => by simp at h)
      · obtain ⟨b, off, cur, rfl, hF, hb, hcs, hx⟩ := c4 hc0
        refine run_firstCells_some w.drew i.size n _ n cap xs c3 (fun j u hu => ?_)
        rw [Addr.add_lit, World.cell?_drew, cell_of_row w b _ cur e (0, 0) hb]
        exact hx j u hu
    refine ⟨_, _, run_append_grow_src (P := P) w t tx ty e i z h1 h2 h3 ao n cap xs hold x m news hsrc (by omega) (by unfold maxLen at b1; omega) (growslice_fits (by omega) b2), ?_⟩
    have hge := grownCap_ge w (n + m) cap e
    have hcm : grownCap w (n + m) cap e ≤ maxLen := grownCap_le_maxLen w (n + m) cap e b1
    refine Sat.sl_made (w := w.drew) (hS.drew.pick (List.range' 1 Rs.length) Rs ?_ (List.nodup_range')) hge hcm hlen ?_ (fun j u hu => ?_)
    · refine List.ext_getElem? (fun k => ?_)
      by_cases hk : k < Rs.length
      · simp [List.getElem?_range', hk, Nat.add_comm 1 k]
      · simp [List.getElem?_eq_none (show Rs.length ≤ k by omega)]
        omega
    · simp only [Array.size_append, List.size_toArray, size_zeroCells, h6, hlen, ← Nat.add_mul]
      refine Nat.mul_le_mul_right _ (by omega)
    · have hlt := (List.getElem?_eq_some_iff.1 hu).1
      rw [Array.getElem?_append_left (by simpa using hlt)]
      simpa using hu

/-- append, for the walk: the call's own slice, whatever is appended; one way on. -/
theorem wpList_append_sat (w : World) {ops : Array Oper} {rest : List Oper} {o : Oper} {a : Act} {Q : Exit → Act → World → Prop}
    (hg : o.guard = none) (s x : Operand) (t tx : TypeId) (hop : o.op = Op.call { callee := Callee.builtin Builtin.append, args := #[s, x], argTypes := #[t, tx] })
    (e : TypeId) (i : TypeInfo) (z : Value) (size bytes : Nat) (h1 : P.underlying t = some (.slice e)) (h2 : P.info? e = some i) (h3 : i.zero = some z) (h4 : i.size = size) (h5 : i.bytes = bytes) (h6 : z.cells.size = size) (h7 : 0 < size)
    (n : Nat) (xs : List Value) (Rs : List Res) (v : Value) (hs : a.eval s = v) (hS : Sat w (sl e size n v xs :: Rs)) (m : Nat) (news : List Value) (vx : Value) (hx : a.eval x = vx) (hsrc : Src P size tx vx m news w)
    (b1 : n + m ≤ maxLen) (b2 : (n + m) * bytes ≤ 140737488355328)
    (hK : ∀ v' w', Sat w' (sl e size (n + m) v' (xs ++ news) :: Rs) → wpList P ops Q rest (a.put o.dst v') w') :
    wpList P ops Q (o :: rest) a w := by
  subst hs
  subst hx
  refine wpList_plain hg fun K hK' => ?_
  obtain ⟨v', w', hrun, r⟩ := run_append_sl (P := P) w t tx o.type e i z size bytes h1 h2 h3 h4 h5 h6 h7 _ n xs Rs hS _ m news hsrc b1 b2
  unfold Oper.wp
  simp [execOp, hop, resolve, invoke, builtin, hrun, Result.andThen]
  exact hK' _ _ (hK v' w' r)

/-- The operation alone. -/
theorem wp_append_sat (w : World) {o : Oper} {a : Act} {K : Act → World → Prop} {Q : Exit → Act → World → Prop}
    (s x : Operand) (t tx : TypeId) (hop : o.op = Op.call { callee := Callee.builtin Builtin.append, args := #[s, x], argTypes := #[t, tx] })
    (e : TypeId) (i : TypeInfo) (z : Value) (size bytes : Nat) (h1 : P.underlying t = some (.slice e)) (h2 : P.info? e = some i) (h3 : i.zero = some z) (h4 : i.size = size) (h5 : i.bytes = bytes) (h6 : z.cells.size = size) (h7 : 0 < size)
    (n : Nat) (xs : List Value) (Rs : List Res) (v : Value) (hs : a.eval s = v) (hS : Sat w (sl e size n v xs :: Rs)) (m : Nat) (news : List Value) (vx : Value) (hx : a.eval x = vx) (hsrc : Src P size tx vx m news w)
    (b1 : n + m ≤ maxLen) (b2 : (n + m) * bytes ≤ 140737488355328)
    (hK : ∀ v' w', Sat w' (sl e size (n + m) v' (xs ++ news) :: Rs) → K (a.put o.dst v') w') :
    o.wp P a w K Q := by
  subst hs
  subst hx
  obtain ⟨v', w', hrun, r⟩ := run_append_sl (P := P) w t tx o.type e i z size bytes h1 h2 h3 h4 h5 h6 h7 _ n xs Rs hS _ m news hsrc b1 b2
  unfold Oper.wp
  simp [execOp, hop, resolve, invoke, builtin, hrun, Result.andThen]
  exact hK v' w' r

/-- What is appended: the elements of a slice that is read. -/
theorem SlR.src {w : World} {e size n : Nat} {v : Value} {xs : List Value} (h : SlR w e size n v xs) {tx e' : TypeId} (hk : P.underlying tx = some (.slice e')) (h1 : ∀ u ∈ xs, u.oneCell' = true) : Src P size tx v n xs w := by
  obtain ⟨ao, cap, rfl, c1, c2, c3, c4⟩ := h
  rcases Nat.eq_zero_or_pos (n * size) with h0 | h0
  · obtain rfl : xs = [] := List.eq_nil_of_length_eq_zero (by omega)
    cases ao with
    | none =>
      exact ⟨.inl ⟨e', hk⟩, fun _ => rfl, run_firstCells_none w size n n cap, run_firstCells_none w.drew size n n cap, c3, fun _ h => by cases h⟩
    | some a => exact Src.ofSlice w hk a n cap [] c3 (fun j u hu => by simp at hu) (fun _ h => by cases h)
  · obtain ⟨b, off, rfl, -, hc⟩ := c4 h0
    exact Src.ofSlice w hk _ n cap xs c3 (fun j u hu => by rw [Addr.add_lit]; exact hc j u hu) h1

end

end Go.Hal
