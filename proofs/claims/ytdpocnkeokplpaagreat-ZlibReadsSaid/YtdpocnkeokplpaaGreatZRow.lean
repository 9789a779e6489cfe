/- A struct of four cells is stored at once. -/
import Derived.Test.YtdpocnkeokplpaaGreatQa
import Derived.Laws.Tables
import Derived.Laws.Rows
namespace Go.Proofs.YtdpocnkeokplpaaGreat
open Go.RowKit Go.Hal
set_option linter.unusedVariables false
set_option linter.unusedSimpArgs false

theorem set4 (a b c d : Value) : ∀ old : Array Value, old.size = 4 → (((old.setIfInBounds 0 a).setIfInBounds 1 b).setIfInBounds 2 c).setIfInBounds 3 d = #[a, b, c, d]
  | ⟨[_, _, _, _]⟩, _ => rfl
theorem setRow4 (w : World) (g : Nat) (old : Array Value) (t : TypeId) (a b c d : Value) (hg : w.heap[g]? = some (.cells old t (0, 0))) (h4 : old.size = 4) :
    (((w.setCell ⟨g, 0, none⟩ a).setCell ⟨g, 1, none⟩ b).setCell ⟨g, 2, none⟩ c).setCell ⟨g, 3, none⟩ d = w.setRow g #[a, b, c, d] := by
  have g1 := heap_setCell_same w g 0 old t a hg
  have g2 := heap_setCell_same _ g 1 _ t b g1
  have g3 := heap_setCell_same _ g 2 _ t c g2
  rw [setCell_eq_setRow _ g 3 _ t (0, 0) d g3, setCell_eq_setRow _ g 2 _ t (0, 0) c g2, setCell_eq_setRow _ g 1 _ t (0, 0) b g1, setCell_eq_setRow w g 0 old t (0, 0) a hg, setRow_setRow, setRow_setRow, setRow_setRow, set4 a b c d old h4]
theorem Sat.setRow4 {w : World} {g : Nat} {old : Array Value} {t : TypeId} {Rs : List Res} (hS : Sat w (blk g (.cells old t (0, 0)) :: Rs)) (h4 : old.size = 4) (a b c d : Value) : Sat (w.setRow g #[a, b, c, d]) (blk g (.cells #[a, b, c, d] t (0, 0)) :: Rs) := by
  have h := (((hS.setCell (i := 0) a).setCell (i := 1) b).setCell (i := 2) c).setCell (i := 3) d
  rw [Go.Proofs.YtdpocnkeokplpaaGreat.setRow4 w g old t a b c d hS.heap h4] at h
  rw [set4 a b c d old h4] at h
  exact h

end Go.Proofs.YtdpocnkeokplpaaGreat
