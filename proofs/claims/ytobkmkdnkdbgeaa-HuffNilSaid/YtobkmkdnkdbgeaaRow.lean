/- Slices that came in, as the rows tell them, read. -/
import Derived.Test.YtobkmkdnkdbgeaaSmall
namespace Go.Proofs.Ytobkmkdnkdbgeaa
open Go.RowKit Go.Hal
set_option linter.unusedVariables false

theorem row_read {k : IntKind} {w : World} {a : Option Addr} {len cap : Nat} {zs : List Int} (e : TypeId)
    (h : (a = none ∧ len = 0 ∧ cap = 0 ∧ zs = []) ∨ ∃ x, a = some x ∧ len ≤ cap ∧ cap ≤ maxLen ∧ zs.length = cap ∧ (∀ i, i < zs.length → w.cell? (x.add i) = some (.int k (zs.getD i 0))) ∧ ∀ n ∈ zs, (Lit.int k n).wf = true) :
    (zs.take len).length = len ∧ SlR w e 1 len (.slice a len cap) ((zs.take len).map (Value.int k)) := by
  rcases h with ⟨rfl, rfl, rfl, rfl⟩ | ⟨x, rfl, h1, h2, h3, h4, -⟩
  · exact ⟨rfl, SlR.nil none 0 (by unfold maxLen; omega)⟩
  · have hl : (zs.take len).length = len := by rw [List.length_take]; omega
    refine ⟨hl, _, cap, rfl, h1, h2, by simpa using hl, fun hn => ?_⟩
    obtain ⟨b, o, sp⟩ := x
    have h0 := h4 0 (by omega)
    have hsp : sp = none := by
      cases sp with
      | none => rfl
      | some y =>
        exfalso
        simp [Addr.add, World.cell?] at h0
        split at h0 <;> simp_all
    subst hsp
    have hb : b < w.heap.size := World.block_lt_of_cell? w _ h0
    refine ⟨b, o, rfl, hb, fun j u hu => ?_⟩
    have hj : j < len := by
      have := (List.getElem?_eq_some_iff.1 hu).1
      rw [List.length_map, hl] at this; exact this
    have hj2 := h4 j (by omega)
    have ea : (⟨b, o, none⟩ : Addr).add j = ⟨b, o + j, none⟩ := by unfold Addr.add; split <;> simp_all
    rw [ea] at hj2
    rw [hj2]
    rw [List.getElem?_map, List.getElem?_take, if_pos hj, List.getElem?_eq_getElem (by omega)] at hu
    simp only [Option.map_some, Option.some.injEq] at hu
    rw [← hu]
    simp [List.getD_eq_getElem?_getD, List.getElem?_eq_getElem (show j < zs.length by omega)]

theorem ints_row {w : World} {a : Option Addr} {len cap : Nat} {zs : List Int}
    (h : (a = none ∧ len = 0 ∧ cap = 0 ∧ zs = []) ∨ ∃ x, a = some x ∧ len ≤ cap ∧ cap ≤ maxLen ∧ zs.length = cap ∧ (∀ i, i < zs.length → w.cell? (x.add i) = some (.int .i64 (zs.getD i 0))) ∧ ∀ n ∈ zs, (Lit.int .i64 n).wf = true) :
    ∀ w', Sat w' [env w] → IntsR w' (.slice a len cap) (zs.take len) := by
  intro w' hS
  obtain ⟨h1, h2⟩ := row_read 3 h
  unfold IntsR
  rw [h1]
  exact h2.below (B := w.heap.size) hS.below

/-- Numbers of a kind without a sign, as Nats. -/
theorem nats_row {k : IntKind} (B : Nat) (hk : ∀ n : Int, (Lit.int k n).wf = true → 0 ≤ n ∧ n < B) {w : World} {a : Option Addr} {len cap : Nat} {zs : List Int} (e : TypeId)
    (h : (a = none ∧ len = 0 ∧ cap = 0 ∧ zs = []) ∨ ∃ x, a = some x ∧ len ≤ cap ∧ cap ≤ maxLen ∧ zs.length = cap ∧ (∀ i, i < zs.length → w.cell? (x.add i) = some (.int k (zs.getD i 0))) ∧ ∀ n ∈ zs, (Lit.int k n).wf = true) :
    ∃ ys : List Nat, ys.length = len ∧ (∀ y ∈ ys, y < B) ∧ ∀ w', Sat w' [env w] → SlR w' e 1 ys.length (.slice a ys.length cap) (ys.map fun y : Nat => Value.int k y) := by
  obtain ⟨h1, h2⟩ := row_read e h
  have hz : ∀ n ∈ zs.take len, 0 ≤ n ∧ n < B := by
    intro n hn
    have hn' := List.mem_of_mem_take hn
    rcases h with ⟨-, -, -, rfl⟩ | ⟨x, -, -, -, -, -, h5⟩
    · simp at hn'
    · exact hk n (h5 n hn')
  refine ⟨(zs.take len).map Int.toNat, by simpa using h1, fun y hy => ?_, fun w' hS => ?_⟩
  · obtain ⟨n, hn, rfl⟩ := List.mem_map.1 hy
    have := hz n hn
    omega
  · rw [List.length_map, h1, List.map_map]
    have e2 : (zs.take len).map ((fun y : Nat => Value.int k y) ∘ Int.toNat) = (zs.take len).map (Value.int k) := by
      refine List.map_congr_left fun n hn => ?_
      simp only [Function.comp]
      rw [Int.toNat_of_nonneg (hz n hn).1]
    rw [e2]
    exact h2.below (B := w.heap.size) hS.below
theorem wf_u16 (n : Int) (h : (Lit.int .u16 n).wf = true) : 0 ≤ n ∧ n < (65536 : Nat) := by
  simp [Lit.wf, IntKind.min, IntKind.max, IntKind.signed, IntKind.bits] at h; omega
theorem wf_u8 (n : Int) (h : (Lit.int .u8 n).wf = true) : 0 ≤ n ∧ n < (256 : Nat) := by
  simp [Lit.wf, IntKind.min, IntKind.max, IntKind.signed, IntKind.bits] at h; omega
theorem wf_i64 (n : Int) (h : (Lit.int .i64 n).wf = true) : -9223372036854775808 ≤ n ∧ n ≤ 9223372036854775807 := by
  simp [Lit.wf, IntKind.min, IntKind.max, IntKind.signed, IntKind.bits] at h; omega

end Go.Proofs.Ytobkmkdnkdbgeaa
