/- huff's words as keys of maps. -/
import Derived.Test.YtobkmkdnkdbgeaaSmall
import Derived.Test.YtobkmkdnkdbgeaaMap
import Derived.Deep.RegionHeld3
namespace Go.Proofs.Ytobkmkdnkdbgeaa
open Go.RowKit Go.Hal
set_option linter.unusedVariables false
set_option linter.unusedSimpArgs false

/-- A word: how many bits, and which. -/
def encW (k : Nat × Nat) : Value := .agg #[.int .i64 (k.1 : Nat), .int .i64 (k.2 : Nat)]

theorem w_check (e : Bool) (a b : Int) (w : World) : (Instr.checkKey e 10000 88 (.agg #[.int .i64 a, .int .i64 b])).run Try.prog w = .ok () w := by kernel_rfl
theorem w_fields : Try.prog.underlying 88 = some (.struct (Try.prog.fieldsOf 88)) := by kernel_rfl
theorem w_stood : Try.prog.stoodInHeld 88 = false := by kernel_rfl
theorem w_eq (a b c d : Int) (w : World) : (Op.equal 88 (.agg #[.int .i64 a, .int .i64 b]) (.agg #[.int .i64 c, .int .i64 d])).run Try.prog w = .ok (a == c && b == d) w := by
  unfold Op.equal Op.maxDepth
  rw [run_equalIn_struct w 9999 88 _ _ w_fields w_stood]
  have ha : ∀ (t : Nat) (cs : Array Value) (o : Nat) (v : Value) (w : World), t = 3 → cs[o]? = some v → (part t cs o).run Try.prog w = .ok v w := by
    rintro t cs o v w rfl h
    unfold part isAgg
    simp [run_underlying Try.underlying3, h]
  have hi : ∀ (x y : Int) (w : World), (Op.equalIn 9999 3 (.int .i64 x) (.int .i64 y)).run Try.prog w = .ok (x == y) w := by
    intro x y w
    unfold Op.equalIn
    simp [run_underlying Try.underlying3]
  simp only [Program.fieldsOf, Try.underlying88]
  simp only [Op.eqFields]
  simp [ha, hi]
  by_cases h1 : a = c <;> by_cases h2 : b = d <;> simp [h1, h2]

theorem keyW : KeyLaw Try.prog 88 encW where
  check e k w := w_check e _ _ w
  eq k k' w := by
    unfold encW
    rw [w_eq]
    congr 1
    obtain ⟨a, b⟩ := k
    obtain ⟨c, d⟩ := k'
    rw [Bool.eq_iff_iff]
    simp
    omega
  now := ⟨_, w_fields, fun k k' => .inl rfl⟩
  same k := by
    simp [encW, Instr.sameBits]

/-- A map's header cell among others; a code's three cells. -/
def codeC (m1 : Nat) (vw : Value) (m2 : Nat) : Array Value := #[.map (some m1), vw, .map (some m2)]

/-- The words of symbols, in a row: how many bits, and which. -/
def rowC (ws : List (Nat × Nat)) : List Value := ws.flatMap fun k => [.int .i64 (k.1 : Nat), .int .i64 (k.2 : Nat)]
theorem rowC_length (ws : List (Nat × Nat)) : (rowC ws).length = ws.length * 2 := by
  induction ws with
  | nil => rfl
  | cons k r ih => simp only [rowC, List.flatMap_cons, List.length_append, List.length_cons, List.length_nil] at *; omega
theorem rowC_get (ws : List (Nat × Nat)) : ∀ s (h : s < ws.length), (rowC ws)[s * 2]? = some (.int .i64 (ws[s].1 : Nat)) ∧ (rowC ws)[s * 2 + 1]? = some (.int .i64 (ws[s].2 : Nat)) := by
  induction ws with
  | nil => intro s h; simp at h
  | cons k r ih =>
    intro s h
    cases s with
    | zero => simp [rowC]
    | succ s =>
      have := ih s (by simpa using h)
      simp only [rowC, List.flatMap_cons, List.getElem_cons_succ] at *
      rw [show (s + 1) * 2 = s * 2 + 2 by omega, show s * 2 + 2 + 1 = s * 2 + 1 + 2 by omega]
      exact this
theorem rowC_set (ws : List (Nat × Nat)) (s : Nat) (k : Nat × Nat) (h : s < ws.length) : ((rowC ws).set (s * 2) (.int .i64 (k.1 : Nat))).set (s * 2 + 1) (.int .i64 (k.2 : Nat)) = rowC (ws.set s k) := by
  induction ws generalizing s with
  | nil => simp at h
  | cons x r ih =>
    cases s with
    | zero => simp [rowC]
    | succ s =>
      have := ih s (by simpa using h)
      simp only [rowC, List.flatMap_cons, List.set_cons_succ] at *
      rw [show (s + 1) * 2 = s * 2 + 1 + 1 by omega, show s * 2 + 1 + 1 + 1 = s * 2 + 1 + 1 + 1 by omega, ← this]
      simp

end Go.Proofs.Ytobkmkdnkdbgeaa
