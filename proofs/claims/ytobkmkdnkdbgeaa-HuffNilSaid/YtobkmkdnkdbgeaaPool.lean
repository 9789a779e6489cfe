/- Slices that are read from now on: one resource for all of them, whether they share memory or not. -/
import Derived.Test.YtobkmkdnkdbgeaaSl
namespace Go.Hal
open Go.RowKit
set_option linter.unusedVariables false

/-- A slice that is read. -/
structure Ent where
  e : TypeId
  size : Nat
  n : Nat
  v : Value
  xs : List Value

theorem SlAt.carry {F F' : Nat → Prop} {w w' : World} {e size n : Nat} {v : Value} {xs : List Value} (h : SlAt F w e size n v xs) (hc : Carry F F' w w') : SlAt F' w' e size n v xs := (sl e size n v xs).carry F F' w w' h hc
theorem SlAt.mono {F F' : Nat → Prop} {w : World} {e size n : Nat} {v : Value} {xs : List Value} (h : SlAt F w e size n v xs) (hF : ∀ k, F k → F' k) : SlAt F' w e size n v xs := h.carry (Carry.same hF)

def pool (L : List Ent) : Res where
  P F w := ∀ x ∈ L, SlAt F w x.e x.size x.n x.v x.xs
  carry F F' w w' := fun h hc x hx => (h x hx).carry hc

theorem Sat.pool_nil {w : World} {Rs : List Res} (hS : Sat w Rs) : Sat w (pool [] :: Rs) := by
  obtain ⟨own, ho⟩ := hS
  refine ⟨fun k => own k + 1, fun i T hi => ?_⟩
  match i, hi with
  | 0, hi =>
    simp only [List.getElem?_cons_zero, Option.some.injEq] at hi
    subst hi
    intro x hx; cases hx
  | i + 1, hi => exact T.carry _ _ _ _ (ho i T hi) (Carry.same (fun k hk => by have hk' : own k = i := hk; show own k + 1 = i + 1; omega))

theorem Sat.pool_add {w : World} {Rs : List Res} {L : List Ent} {e size n : Nat} {v : Value} {xs : List Value} (hS : Sat w (sl e size n v xs :: pool L :: Rs)) : Sat w (pool (⟨e, size, n, v, xs⟩ :: L) :: Rs) := by
  refine hS.star_in.conv (fun F hF => ?_)
  obtain ⟨G, ha, hb⟩ := hF
  intro x hx
  rcases List.mem_cons.1 hx with rfl | hx
  · exact SlAt.mono ha (fun k hk => hk.1)
  · exact SlAt.mono (hb x hx) (fun k hk => hk.1)

theorem Sat.pool_read {w : World} {Rs : List Res} {L : List Ent} (hS : Sat w (pool L :: Rs)) {x : Ent} (hx : x ∈ L) : SlR w x.e x.size x.n x.v x.xs := (hS.first.choose_spec x hx).read

theorem Sat.pur_in {w : World} {Rs : List Res} {p : Prop} (hp : p) (hS : Sat w Rs) : Sat w (pur p :: Rs) := by
  obtain ⟨own, ho⟩ := hS
  refine ⟨fun k => own k + 1, fun i T hi => ?_⟩
  match i, hi with
  | 0, hi =>
    simp only [List.getElem?_cons_zero, Option.some.injEq] at hi
    subst hi
    exact hp
  | i + 1, hi => exact T.carry _ _ _ _ (ho i T hi) (Carry.same (fun k hk => by have hk' : own k = i := hk; show own k + 1 = i + 1; omega))
theorem Sat.pur_out {w : World} {Rs : List Res} {p : Prop} (hS : Sat w (pur p :: Rs)) : p ∧ Sat w Rs := ⟨hS.first.choose_spec, hS.tail⟩

/-- A part of a slice is read, too: a piece from element i on. -/
theorem SlAt.slice {F : Nat → Prop} {w : World} {e size n : Nat} {xs : List Value} {b off cap : Nat} (h : SlAt F w e size n (.slice (some ⟨b, off, none⟩) n cap) xs) (i m c : Nat) (hm : i + m ≤ n) (hc : m ≤ c) (hc2 : i + c ≤ cap) (hp : 0 < c) :
    SlAt F w e size m (.slice (some ⟨b, off + i * size, none⟩) m c) ((xs.drop (i * size)).take (m * size)) := by
  obtain ⟨ao, cap', heq, h1, h2, h3, h4⟩ := h
  simp only [Value.slice.injEq, true_and] at heq
  obtain ⟨rfl, rfl⟩ := heq
  obtain ⟨b', off', cur, heq, r2, r3, r4, r5⟩ := h4 (by omega)
  simp only [Option.some.injEq, Addr.mk.injEq, and_true] at heq
  obtain ⟨rfl, rfl⟩ := heq
  have hmul : (i + m) * size ≤ n * size := Nat.mul_le_mul_right _ hm
  have hmul2 : (i + c) * size ≤ cap * size := Nat.mul_le_mul_right _ hc2
  rw [Nat.add_mul] at hmul hmul2
  refine ⟨_, c, rfl, hc, by omega, by simp; omega, fun _ => ⟨b, _, cur, rfl, r2, r3, by omega, fun j u hu => ?_⟩⟩
  rw [List.getElem?_take] at hu
  split at hu
  · rw [List.getElem?_drop] at hu
    have := r5 _ u hu
    rw [← Nat.add_assoc] at this
    exact this
  · cases hu

end Go.Hal
