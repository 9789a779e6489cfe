/- Slices of slices of bytes that came in. -/
import Derived.Test.YtobkmkdnkdbgeaaQg
import Derived.Deep.Matrix
namespace Go.Proofs.Ytobkmkdnkdbgeaa
open Go.RowKit Go.Hal
set_option linter.unusedVariables false
set_option linter.unusedSimpArgs false

/-- A slice of texts: its cells V, and what each reads. -/
def MatR (w : World) (v : Value) (T : List (List UInt8)) (V : List Value) : Prop :=
  SlR w 43 1 T.length v V ∧ ∀ (i : Nat) (t : List UInt8) (vi : Value), T[i]? = some t → V[i]? = some vi → SlR w 5 1 t.length vi (t.map byteV)
theorem MatR.below {w w' : World} {v : Value} {T : List (List UInt8)} {V : List Value} (h : MatR w v T V) (hb : Below w.heap.size w w') : MatR w' v T V :=
  ⟨h.1.below (B := w.heap.size) hb, fun i t vi ht hv => (h.2 i t vi ht hv).below (B := w.heap.size) hb⟩

theorem nospan {w : World} {b o : Nat} {sp} {v : Value} (h0 : w.cell? ((⟨b, o, sp⟩ : Addr).add 0) = some v) : sp = none := by
  cases sp with
  | none => rfl
  | some y =>
    exfalso
    simp [Addr.add, World.cell?] at h0
    split at h0 <;> simp_all

theorem mat_in {H : Type} {enc : TypeId × Value → H} {w : World} {base fuel : Nat} {a : Option Addr} {len cap : Nat} {x : DataW H × List MemPlace}
    (hf : DataW.trod enc Try.prog w base (fun _ => true) true fuel 61 (Value.slice a len cap).cells.toList = some x) : ∃ (T : List (List UInt8)) (V : List Value), T.length = len ∧ MatR w (.slice a T.length cap) T V := by
  rcases Go.Deep.open_int_rows Try.underlying61 Try.underlying43 Try.underlying5 (by kernel_rfl) (by kernel_rfl) hf with ⟨hcs, -⟩ | ⟨p, l, c, A, L, C, Z, hcs, -, hl, hm, -, hr⟩
  · simp [Value.cells] at hcs
    obtain ⟨rfl, rfl, rfl⟩ := hcs
    exact ⟨[], [], rfl, SlR.nil none 0 (by unfold maxLen; omega), fun i t vi ht => by simp at ht⟩
  · simp [Value.cells] at hcs
    obtain ⟨rfl, rfl, rfl⟩ := hcs
    have each : ∀ r, r < len → ∃ ys : List UInt8, ys.length = L r ∧ SlR w 5 1 ys.length (.slice (A r) (L r) (C r)) (ys.map byteV) := by
      intro r hlt
      obtain ⟨h1, h2, h3, h4, h5, h6, h7⟩ := hr r (by omega)
      have hrow : (A r = none ∧ L r = 0 ∧ C r = 0 ∧ Z r = []) ∨ ∃ x, A r = some x ∧ L r ≤ C r ∧ C r ≤ maxLen ∧ (Z r).length = C r ∧ (∀ i, i < (Z r).length → w.cell? (x.add i) = some (.int .u8 ((Z r).getD i 0))) ∧ ∀ n ∈ Z r, (Lit.int .u8 n).wf = true := by
        cases hA : A r with
        | none =>
          have hc := h6 hA
          exact .inl ⟨rfl, by omega, hc, List.eq_nil_of_length_eq_zero (by omega)⟩
        | some y => exact .inr ⟨y, rfl, h2, h3, h4, fun i hi => (h7 y hA).2 i (by omega), h5⟩
      obtain ⟨ys, k1, k2⟩ := bytes_row hrow
      refine ⟨ys, k1, ?_⟩
      have k3 := k2 w (Sat.start w)
      rw [k1] at k3 ⊢
      exact k3
    obtain ⟨Y, hY⟩ := Go.Deep.choose_lt each
    have hlen : ((List.range len).map Y).length = len := by simp
    refine ⟨(List.range len).map Y, (List.range len).map fun r => .slice (A r) (L r) (C r), hlen, ?_, fun i t vi ht hv => ?_⟩
    · rw [hlen]
      refine ⟨_, _, rfl, hl, hm, by simp, fun hn => ?_⟩
      have h0 := (hr 0 (by omega)).1
      obtain ⟨b, o, sp⟩ := p
      obtain rfl := nospan h0
      refine ⟨b, o, rfl, World.block_lt_of_cell? w _ h0, fun j u hu => ?_⟩
      have hj : j < len := by have := (List.getElem?_eq_some_iff.1 hu).1; simpa using this
      have h1 := (hr j (by omega)).1
      rw [Addr.add_lit] at h1
      rw [h1]
      simp [hj] at hu
      rw [hu]
    · have hi : i < len := by have := (List.getElem?_eq_some_iff.1 ht).1; simpa using this
      simp [hi] at ht hv
      subst ht
      subst hv
      have h2 := (hY i hi)
      exact h2.2

end Go.Proofs.Ytobkmkdnkdbgeaa
