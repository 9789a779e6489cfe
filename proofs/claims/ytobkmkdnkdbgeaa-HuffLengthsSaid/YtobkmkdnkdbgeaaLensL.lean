/- huff.Lengths in plain words: what its lengths are, symbol by symbol. -/
import Derived.Test.YtobkmkdnkdbgeaaPkgM
namespace Go.Hal
set_option linter.unusedVariables false
set_option linter.unusedSimpArgs false

/-- All symbols that lengths are told of. -/
def flatL (cs : List Int) (most : Nat) : List Int :=
  if (firstM cs).length = 1 then (firstM cs).flatMap (·.2) else flatM ((rowM (sortG Prod.fst (firstM cs)) (most - 1)).take (2 * (firstM cs).length - 2))
/-- The lengths, as natural numbers. -/
def lensN (cs : List Int) (most : Nat) : List Nat := (List.range cs.length).map fun s : Nat => (flatL cs most).count (s : Int)
theorem lensM_lensN (cs : List Int) (most : Nat) : lensM cs most = (lensN cs most).map fun n : Nat => (n : Int) := by
  unfold lensM lensN countM flatL flatM
  rw [List.map_map]; rfl
theorem lensN_length (cs : List Int) (most : Nat) : (lensN cs most).length = cs.length := by simp [lensN]

theorem firstM_mem (cs : List Int) (p : Pc) : p ∈ firstM cs ↔ ∃ s : Nat, ∃ n : Int, cs[s]? = some n ∧ 0 < n ∧ p = (n, [(s : Int)]) := by
  unfold firstM
  rw [List.mem_filterMap]
  constructor
  · rintro ⟨s, hs, he⟩
    have hs' := List.mem_range.1 hs
    rw [List.getElem?_eq_getElem hs'] at he
    simp only at he
    split at he
    · cases he; exact ⟨s, cs[s], List.getElem?_eq_getElem hs', by assumption, rfl⟩
    · cases he
  · rintro ⟨s, n, h1, h2, rfl⟩
    refine ⟨s, List.mem_range.2 (List.getElem?_eq_some_iff.1 h1).1, ?_⟩
    rw [h1]
    simp only
    rw [if_pos h2]

theorem firstM_sy (cs : List Int) : (firstM cs).map sy = ((List.range cs.length).filter fun s : Nat => decide (0 < (cs[s]?).getD 0)).map fun s : Nat => (s : Int) := by
  unfold firstM
  have : ∀ l : List Nat, (∀ s ∈ l, s < cs.length) → (l.filterMap fun s : Nat => match cs[s]? with
      | some n => if 0 < n then some ((n, [(s : Int)]) : Pc) else none
      | none => none).map sy = (l.filter fun s : Nat => decide (0 < (cs[s]?).getD 0)).map fun s : Nat => (s : Int) := by
    intro l
    induction l with
    | nil => intro _; rfl
    | cons s r ih =>
      intro h
      have hs := h s (by simp)
      have hr := ih (fun x hx => h x (by simp [hx]))
      by_cases h0 : 0 < cs[s]
      · simp only [List.filterMap_cons, List.getElem?_eq_getElem hs, h0, if_true, List.map_cons, hr, List.filter_cons, Option.getD_some, decide_true, sy, List.headD_cons]
      · simp only [List.filterMap_cons, List.getElem?_eq_getElem hs, h0, if_false, hr, List.filter_cons, Option.getD_some, decide_false, Bool.false_eq_true]
  exact this _ (fun s hs => List.mem_range.1 hs)

theorem leaves_first (cs : List Int) : Leaves (sortG Prod.fst (firstM cs)) where
  one p hp := by
    rw [mem_sortG] at hp
    obtain ⟨s, -, h⟩ := firstM_one cs p hp
    unfold sy; rw [h]; rfl
  own := by
    have hp : ((sortG Prod.fst (firstM cs)).map sy).Perm ((firstM cs).map sy) := (sortG_perm _ _).map sy
    rw [hp.nodup_iff, firstM_sy]
    refine List.Pairwise.map _ ?_ (List.nodup_range.sublist List.filter_sublist)
    intro a b hab e
    exact hab (by exact_mod_cast e)
  pos p hp := by
    rw [mem_sortG, firstM_mem] at hp
    obtain ⟨s, n, -, h, rfl⟩ := hp
    exact h
  ris := sortG_ris _ _

/-- No symbol but the leaves'. -/
theorem row_syms (f : List Pc) (h : ∀ p ∈ f, p.2 = [sy p]) : ∀ k, ∀ q ∈ rowM f k, ∀ s ∈ q.2, s ∈ f.map sy
  | 0 => fun q hq s hs => by
    have hq : q ∈ f := hq
    rw [h q hq, List.mem_singleton] at hs
    subst hs; exact List.mem_map_of_mem hq
  | k + 1 => fun q hq s hs => by
    simp only [rowM, mem_sortG, List.mem_append] at hq
    rcases hq with hq | hq
    · rw [h q hq, List.mem_singleton] at hs
      subst hs; exact List.mem_map_of_mem hq
    · have : ∀ l : List Pc, (∀ q ∈ l, ∀ s ∈ q.2, s ∈ f.map sy) → ∀ q ∈ pairsM l, ∀ s ∈ q.2, s ∈ f.map sy := by
        intro l
        induction l using pairsM.induct with
        | case1 a b r ih =>
          intro hl q hq s hs
          simp only [pairsM, List.mem_cons] at hq
          rcases hq with rfl | hq
          · simp only [List.mem_append] at hs
            rcases hs with hs | hs
            · exact hl a (by simp) s hs
            · exact hl b (by simp) s hs
          · exact ih (fun q hq => hl q (by simp [hq])) q hq s hs
        | case2 l h => intro hl q hq; rw [pairsM] at hq; · cases hq
                       · exact h
      exact this _ (row_syms f h k) q hq s hs

/-- The lengths that are told are a code's. -/
theorem lensN_good (cs : List Int) (most : Nat) (h : checkM cs most = 0) :
    (∀ s (hs : s < cs.length), (0 < cs[s] ↔ 0 < (lensN cs most)[s]'(by rw [lensN_length]; exact hs)) ∧ (lensN cs most)[s]'(by rw [lensN_length]; exact hs) ≤ most) ∧
    (2 ≤ (firstM cs).length → ((lensN cs most).map fun n => if 0 < n then 2 ^ (15 - n) else 0).sum = 32768) ∧
    (2 ≤ (firstM cs).length → ((List.range cs.length).map fun s : Nat => (cs[s]?).getD 0 * (((lensN cs most)[s]?.getD 0 : Nat) : Int)).sum = (((rowM (sortG Prod.fst (firstM cs)) (most - 1)).take (2 * (firstM cs).length - 2)).map Prod.fst).sum) ∧
    ((firstM cs).length = 1 → ∀ s (hs : s < cs.length), 0 < cs[s] → (lensN cs most)[s]'(by rw [lensN_length]; exact hs) = 1) := by
  have hm : 1 ≤ most ∧ most ≤ 15 ∧ (firstM cs).length ≤ 2 ^ most := by
    unfold checkM at h
    split at h
    · cases h
    · split at h
      · cases h
      · split at h
        · cases h
        · omega
  obtain ⟨hm1, hm2, hm3⟩ := hm
  have hlen : (sortG Prod.fst (firstM cs)).length = (firstM cs).length := sortG_length _ _
  have hL := leaves_first cs
  have hsyf : ∀ s : Nat, (s : Int) ∈ (sortG Prod.fst (firstM cs)).map sy → 0 < (cs[s]?).getD 0 := by
    intro s hs
    rw [((sortG_perm Prod.fst (firstM cs)).map sy).mem_iff, firstM_sy, List.mem_map] at hs
    obtain ⟨t, ht, e⟩ := hs
    have : t = s := by exact_mod_cast e
    subst this
    simpa using (List.mem_filter.1 ht).2
  have hleaf : ∀ s (hs : s < cs.length), 0 < cs[s] → (cs[s], [(s : Int)]) ∈ firstM cs := fun s hs h0 => (firstM_mem cs _).2 ⟨s, cs[s], List.getElem?_eq_getElem hs, h0, rfl⟩
  have hget : ∀ s (hs : s < cs.length), (lensN cs most)[s]'(by rw [lensN_length]; exact hs) = (flatL cs most).count (s : Int) := fun s hs => by simp [lensN]
  by_cases h1 : (firstM cs).length = 1
  · obtain ⟨x, hx⟩ := List.length_eq_one_iff.1 h1
    have hflat : flatL cs most = x.2 := by unfold flatL; rw [if_pos h1, hx]; simp
    obtain ⟨t, ht, hx2⟩ := firstM_one cs x (by rw [hx]; simp)
    have hcnt : ∀ s : Nat, (flatL cs most).count (s : Int) = if s = t then 1 else 0 := by
      intro s
      rw [hflat, hx2, List.count_singleton]
      by_cases e : s = t
      · subst e; simp
      · have e' : ((t : Int) == (s : Int)) = false := beq_eq_false_iff_ne.2 (fun k => e (by exact_mod_cast k.symm))
        rw [e', if_neg e]; rfl
    have hpos : ∀ s (hs : s < cs.length), (0 < cs[s] ↔ s = t) := by
      intro s hs
      constructor
      · intro h0
        have := hleaf s hs h0
        rw [hx, List.mem_singleton] at this
        have e := congrArg Prod.snd this
        rw [hx2] at e
        have e2 : (s : Int) = (t : Int) := by simpa using e
        exact_mod_cast e2
      · rintro rfl
        obtain ⟨s', n, g1, g2, g3⟩ := (firstM_mem cs x).1 (by rw [hx]; simp)
        have e := congrArg Prod.snd g3
        rw [hx2] at e
        have e2 : (s : Int) = (s' : Int) := by simpa using e
        have e' : s = s' := by exact_mod_cast e2
        subst e'
        rw [List.getElem?_eq_getElem hs] at g1
        cases g1; exact g2
    refine ⟨fun s hs => ?_, fun h2 => by omega, fun h2 => by omega, fun _ s hs h0 => ?_⟩
    · rw [hget s hs, hcnt, hpos s hs]
      by_cases e : s = t
      · rw [if_pos e]; exact ⟨⟨fun _ => by omega, fun _ => e⟩, by omega⟩
      · rw [if_neg e]; exact ⟨⟨fun k => absurd k e, fun k => by omega⟩, by omega⟩
    · rw [hget s hs, hcnt, if_pos ((hpos s hs).1 h0)]
  · have hflat : flatL cs most = flatM ((rowM (sortG Prod.fst (firstM cs)) (most - 1)).take (2 * (sortG Prod.fst (firstM cs)).length - 2)) := by unfold flatL; rw [if_neg h1, hlen]
    have hz : ∀ s (hs : s < cs.length), ¬ 0 < cs[s] → (flatL cs most).count (s : Int) = 0 := by
      intro s hs h0
      rw [hflat, List.count_eq_zero]
      intro hm
      obtain ⟨q, hq, hs2⟩ := List.mem_flatMap.1 hm
      have := hsyf s (row_syms _ hL.one _ q (List.mem_of_mem_take hq) _ hs2)
      rw [List.getElem?_eq_getElem hs] at this
      exact h0 this
    by_cases h2 : 2 ≤ (firstM cs).length
    · obtain ⟨k1, k2⟩ := kraft hL (by rw [hlen]; exact h2) most hm1 (by rw [hlen]; exact hm3)
      have hlp : ∀ s (hs : s < cs.length), (flatL cs most).count (s : Int) = lenP (sortG Prod.fst (firstM cs)) most (cs[s], [(s : Int)]) := by
        intro s hs
        rw [hflat]; rfl
      have hp : ∀ s (hs : s < cs.length), 0 < cs[s] → 1 ≤ (flatL cs most).count (s : Int) ∧ (flatL cs most).count (s : Int) ≤ most := by
        intro s hs h0
        rw [hlp s hs]
        exact k1 _ ((mem_sortG _ _ _).2 (hleaf s hs h0))
      refine ⟨fun s hs => ?_, fun _ => ?_, fun _ => ?_, fun e => by omega⟩
      · rw [hget s hs]
        by_cases h0 : 0 < cs[s]
        · have := hp s hs h0
          exact ⟨⟨fun _ => by omega, fun _ => h0⟩, this.2⟩
        · rw [hz s hs h0]
          exact ⟨⟨fun k => absurd k h0, fun k => by omega⟩, by omega⟩
      · -- the room
        have e1 : ∀ l : List Nat, (∀ s ∈ l, s < cs.length) → ((l.map fun s : Nat => (flatL cs most).count (s : Int)).map fun n => if 0 < n then 2 ^ (15 - n) else 0).sum = ((l.filterMap fun s : Nat => match cs[s]? with
            | some n => if 0 < n then some ((n, [(s : Int)]) : Pc) else none
            | none => none).map fun p => 2 ^ (15 - lenP (sortG Prod.fst (firstM cs)) most p)).sum := by
          intro l
          induction l with
          | nil => intro _; rfl
          | cons s r ih =>
            intro hl
            have hs := hl s (by simp)
            have hr := ih (fun x hx => hl x (by simp [hx]))
            by_cases h0 : 0 < cs[s]
            · have := hp s hs h0
              simp only [List.map_cons, List.sum_cons, List.filterMap_cons, List.getElem?_eq_getElem hs, h0, if_true, hr]
              rw [if_pos (by omega), hlp s hs]
            · simp only [List.map_cons, List.sum_cons, List.filterMap_cons, List.getElem?_eq_getElem hs, h0, if_false, hr]
              rw [hz s hs h0]; simp
        have e2 : ((lensN cs most).map fun n => if 0 < n then 2 ^ (15 - n) else 0).sum = ((firstM cs).map fun p => 2 ^ (15 - lenP (sortG Prod.fst (firstM cs)) most p)).sum := e1 _ (fun s hs => List.mem_range.1 hs)
        rw [e2]
        have e3 : ((firstM cs).map fun p => 2 ^ (15 - lenP (sortG Prod.fst (firstM cs)) most p)).sum = ((sortG Prod.fst (firstM cs)).map fun p => 2 ^ (15 - lenP (sortG Prod.fst (firstM cs)) most p)).sum := ((sortG_perm Prod.fst (firstM cs)).map _).sum_nat.symm
        rw [e3]
        have e4 : ∀ l : List Pc, (∀ p ∈ l, lenP (sortG Prod.fst (firstM cs)) most p ≤ most) → (l.map fun p => 2 ^ (15 - lenP (sortG Prod.fst (firstM cs)) most p)).sum = 2 ^ (15 - most) * (l.map fun p => 2 ^ (most - lenP (sortG Prod.fst (firstM cs)) most p)).sum := by
          intro l
          induction l with
          | nil => intro _; rfl
          | cons p r ih =>
            intro hl
            have hpl := hl p (by simp)
            simp only [List.map_cons, List.sum_cons, Nat.mul_add, ih (fun x hx => hl x (by simp [hx]))]
            rw [← Nat.pow_add]
            congr 2
            omega
        rw [e4 _ (fun p hp => (k1 p hp).2), k2, ← Nat.pow_add, show 15 - most + most = 15 by omega]
      · -- the sum
        have hval : ∀ q ∈ sortG Prod.fst (firstM cs), q.1 = valL (fun s => (cs[s.toNat]?).getD 0) q.2 := by
          intro q hq
          rw [mem_sortG, firstM_mem] at hq
          obtain ⟨s, n, g1, g2, rfl⟩ := hq
          simp [valL, g1]
        have hfv := flat_val _ ((rowM (sortG Prod.fst (firstM cs)) (most - 1)).take (2 * (firstM cs).length - 2)) (fun q hq => row_val _ _ hval _ q (List.mem_of_mem_take hq))
        rw [← hfv]
        have hfl : flatM ((rowM (sortG Prod.fst (firstM cs)) (most - 1)).take (2 * (firstM cs).length - 2)) = flatL cs most := by rw [hflat, hlen]
        rw [hfl]
        -- a sum over all symbols, as often as each stands there
        have hin : ∀ x ∈ flatL cs most, ∃ s : Nat, s < cs.length ∧ x = (s : Int) := by
          intro x hx
          rw [hflat] at hx
          obtain ⟨q, hq, hs2⟩ := List.mem_flatMap.1 hx
          have := row_syms _ hL.one _ q (List.mem_of_mem_take hq) _ hs2
          rw [((sortG_perm Prod.fst (firstM cs)).map sy).mem_iff, firstM_sy, List.mem_map] at this
          obtain ⟨t, ht, e⟩ := this
          exact ⟨t, List.mem_range.1 (List.mem_filter.1 ht).1, e.symm⟩
        have hgen : ∀ (l : List Int), (∀ x ∈ l, ∃ s : Nat, s < cs.length ∧ x = (s : Int)) → ((List.range cs.length).map fun s : Nat => (cs[s]?).getD 0 * ((l.count (s : Int) : Nat) : Int)).sum = valL (fun s => (cs[s.toNat]?).getD 0) l := by
          intro l
          induction l with
          | nil =>
            intro _
            simp only [List.count_nil, valL, List.map_nil, List.sum_nil]
            have : ∀ r : List Nat, (r.map fun s => (cs[s]?).getD 0 * ((0 : Nat) : Int)).sum = 0 := by
              intro r
              induction r with
              | nil => rfl
              | cons s r ih => simpa using ih
            exact this _
          | cons x r ih =>
            intro hx
            obtain ⟨t, ht, rfl⟩ := hx x (by simp)
            have hr := ih (fun y hy => hx y (by simp [hy]))
            have hc : ∀ s : Nat, ((((t : Int) :: r).count (s : Int) : Nat) : Int) = ((r.count (s : Int) : Nat) : Int) + if t = s then 1 else 0 := by
              intro s
              rw [List.count_cons]
              by_cases e : t = s
              · subst e; simp
              · have e' : ((t : Int) == (s : Int)) = false := beq_eq_false_iff_ne.2 (fun k => e (by exact_mod_cast k))
                rw [e', if_neg e]; simp
            have : ∀ L : List Nat, L.Nodup → (L.map fun s : Nat => (cs[s]?).getD 0 * ((((t : Int) :: r).count (s : Int) : Nat) : Int)).sum = (L.map fun s : Nat => (cs[s]?).getD 0 * ((r.count (s : Int) : Nat) : Int)).sum + if t ∈ L then (cs[t]?).getD 0 else 0 := by
              intro L
              induction L with
              | nil => intro _; rfl
              | cons s L ihL =>
                intro hnd
                obtain ⟨hnd1, hnd2⟩ := List.nodup_cons.1 hnd
                rw [List.map_cons, List.sum_cons, ihL hnd2, List.map_cons, List.sum_cons, hc s, Int.mul_add]
                by_cases e : t = s
                · subst e
                  rw [if_pos rfl, if_neg hnd1, if_pos (List.mem_cons_self ..)]
                  omega
                · rw [if_neg e]
                  by_cases hm : t ∈ L
                  · rw [if_pos hm, if_pos (List.mem_cons_of_mem _ hm)]; omega
                  · rw [if_neg hm, if_neg (fun h => (List.mem_cons.1 h).elim e hm)]; omega
            rw [this _ List.nodup_range, if_pos (List.mem_range.2 ht), hr]
            simp only [valL, List.map_cons, List.sum_cons, Int.toNat_natCast]
            omega
        rw [← hgen _ hin]
        congr 1
        refine List.map_congr_left fun s hs => ?_
        have hs' := List.mem_range.1 hs
        have hs2 : s < (lensN cs most).length := by rw [lensN_length]; exact hs'
        have e9 : (lensN cs most)[s]? = some (lensN cs most)[s] := List.getElem?_eq_getElem hs2
        rw [e9, Option.getD_some, hget s hs']
    · have h0 : (firstM cs).length = 0 := by omega
      have hnil : firstM cs = [] := List.length_eq_zero_iff.1 h0
      have hno : ∀ s (hs : s < cs.length), ¬ 0 < cs[s] := by
        intro s hs hp
        have := hleaf s hs hp
        rw [hnil] at this; cases this
      refine ⟨fun s hs => ?_, fun h => absurd h h2, fun h => absurd h h2, fun h => absurd h h1⟩
      rw [hget s hs, hz s hs (hno s hs)]
      exact ⟨⟨fun k => absurd k (hno s hs), fun k => by omega⟩, by omega⟩
end Go.Hal
