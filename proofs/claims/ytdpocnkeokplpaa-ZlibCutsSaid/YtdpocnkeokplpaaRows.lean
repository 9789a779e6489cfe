/-
  No cell of these rows narrows 'for every input' (looked for: loops, veiled, ifaces, maps, wideKeys, modest, calm, conditions, laid).
  DERIVED. THE GIVEN ROWS OF THIS SEAT. 10 by the template 'for every input the law returns true; each argument reads behind the call as it read before'; 0 by the template 'total and deterministic' (their statements: YtdpocnkeokplpaaTotals.lean).
  GIVEN WITH THE SEED: the statements are not yours to turn. If you find one false, say at which input.
  Laid BY PROGRAM, IN A SANDBOX (cutbox-rows.mjs): the forced cells as the released guide's own fill.sh prints them over the translation 0a638c2763deb14c… (all of the seat's roots in one cut). By AI agents, Wed Nov 11 2026. No macro, syntax, notation, axiom, sorry.
-/
import Derived.Test.YtdpocnkeokplpaaChecked
import GoSem.Claim
import GoSem.ClaimJoined
import GoSem.ClaimMapViews
import Derived.JoinedTies
import Derived.KernelRfl
namespace Go.Proofs.Ytdpocnkeokplpaa
/- THE CELL 'sum', in the pinned program and in every row, IS THE sha256 OF THE DUMP (.gsa) THAT YtdpocnkeokplpaaProg.lean LOADS. Nothing in Lean hashes anything: it is a label: what it is worth is what the hold of that sum in a sandbox is worth. -/
noncomputable def Try.pinned : Pinned := { name := "ytdpocnkeokplpaa", sum := "0a638c2763deb14cef7fe6160eeaa3c53a5b847452c03a4980a3012a042b3d31", checked := Try.checked }
namespace Rows
def none {H : Type} : Left H := { results := [], args := [] }

/-- 'halftonelaw07.DeflateKinds': WHATEVER THE INPUT: true; the input reads as it did. -/
def deflateKindsSpec : ChangeSpec := { name := "deflateKinds", fn := fun _ => fun
  | [d1, d2] => { results := [.lit (.bool true)], args := [d1, d2] }
  | _ => none }
def deflateKindsRow : OpenClaim := { program := "ytdpocnkeokplpaa", sum := "0a638c2763deb14cef7fe6160eeaa3c53a5b847452c03a4980a3012a042b3d31", func := "halftone/halftonelaw07.DeflateKinds", spec := "deflateKinds", unfollowed := true, recurses := true, plainKeys := false, apart := false }
def DeflateKindsSaid : Prop := deflateKindsRow.holds Try.pinned (OpenSpec.ofChange deflateKindsSpec)

/-- ITS FALSE NEIGHBOUR: 'it returns false'. Refute it at one input. -/
def deflateKindsWrong : ChangeSpec := { name := "deflateKinds", fn := fun _ => fun
  | [d1, d2] => { results := [.lit (.bool false)], args := [d1, d2] }
  | _ => none }
def DeflateKindsWrongFalsely : Prop := deflateKindsRow.holds Try.pinned (OpenSpec.ofChange deflateKindsWrong)

/-- 'halftonelaw07.DeflateBounds': WHATEVER THE INPUT: true; the input reads as it did. -/
def deflateBoundsSpec : ChangeSpec := { name := "deflateBounds", fn := fun _ => fun
  | [d1, d2] => { results := [.lit (.bool true)], args := [d1, d2] }
  | _ => none }
def deflateBoundsRow : OpenClaim := { program := "ytdpocnkeokplpaa", sum := "0a638c2763deb14cef7fe6160eeaa3c53a5b847452c03a4980a3012a042b3d31", func := "halftone/halftonelaw07.DeflateBounds", spec := "deflateBounds", unfollowed := true, recurses := true, plainKeys := false, apart := false }
def DeflateBoundsSaid : Prop := deflateBoundsRow.holds Try.pinned (OpenSpec.ofChange deflateBoundsSpec)

/-- ITS FALSE NEIGHBOUR: 'it returns false'. Refute it at one input. -/
def deflateBoundsWrong : ChangeSpec := { name := "deflateBounds", fn := fun _ => fun
  | [d1, d2] => { results := [.lit (.bool false)], args := [d1, d2] }
  | _ => none }
def DeflateBoundsWrongFalsely : Prop := deflateBoundsRow.holds Try.pinned (OpenSpec.ofChange deflateBoundsWrong)

/-- 'halftonelaw07.DeflateRuns': WHATEVER THE INPUT: true; the input reads as it did. -/
def deflateRunsSpec : ChangeSpec := { name := "deflateRuns", fn := fun _ => fun
  | [d1, d2, d3] => { results := [.lit (.bool true)], args := [d1, d2, d3] }
  | _ => none }
def deflateRunsRow : OpenClaim := { program := "ytdpocnkeokplpaa", sum := "0a638c2763deb14cef7fe6160eeaa3c53a5b847452c03a4980a3012a042b3d31", func := "halftone/halftonelaw07.DeflateRuns", spec := "deflateRuns", unfollowed := true, recurses := true, plainKeys := false, apart := false }
def DeflateRunsSaid : Prop := deflateRunsRow.holds Try.pinned (OpenSpec.ofChange deflateRunsSpec)

/-- ITS FALSE NEIGHBOUR: 'it returns false'. Refute it at one input. -/
def deflateRunsWrong : ChangeSpec := { name := "deflateRuns", fn := fun _ => fun
  | [d1, d2, d3] => { results := [.lit (.bool false)], args := [d1, d2, d3] }
  | _ => none }
def DeflateRunsWrongFalsely : Prop := deflateRunsRow.holds Try.pinned (OpenSpec.ofChange deflateRunsWrong)

/-- 'halftonelaw07.DeflateTwice': WHATEVER THE INPUT: true; the input reads as it did. -/
def deflateTwiceSpec : ChangeSpec := { name := "deflateTwice", fn := fun _ => fun
  | [d] => { results := [.lit (.bool true)], args := [d] }
  | _ => none }
def deflateTwiceRow : OpenClaim := { program := "ytdpocnkeokplpaa", sum := "0a638c2763deb14cef7fe6160eeaa3c53a5b847452c03a4980a3012a042b3d31", func := "halftone/halftonelaw07.DeflateTwice", spec := "deflateTwice", unfollowed := true, recurses := true, plainKeys := false, apart := false }
def DeflateTwiceSaid : Prop := deflateTwiceRow.holds Try.pinned (OpenSpec.ofChange deflateTwiceSpec)

/-- ITS FALSE NEIGHBOUR: 'it returns false'. Refute it at one input. -/
def deflateTwiceWrong : ChangeSpec := { name := "deflateTwice", fn := fun _ => fun
  | [d] => { results := [.lit (.bool false)], args := [d] }
  | _ => none }
def DeflateTwiceWrongFalsely : Prop := deflateTwiceRow.holds Try.pinned (OpenSpec.ofChange deflateTwiceWrong)

/-- 'halftonelaw07.DeflateRefuses': WHATEVER THE INPUT: true; the input reads as it did. -/
def deflateRefusesSpec : ChangeSpec := { name := "deflateRefuses", fn := fun _ => fun
  | [d1, d2] => { results := [.lit (.bool true)], args := [d1, d2] }
  | _ => none }
def deflateRefusesRow : OpenClaim := { program := "ytdpocnkeokplpaa", sum := "0a638c2763deb14cef7fe6160eeaa3c53a5b847452c03a4980a3012a042b3d31", func := "halftone/halftonelaw07.DeflateRefuses", spec := "deflateRefuses", unfollowed := true, recurses := true, plainKeys := false, apart := false }
def DeflateRefusesSaid : Prop := deflateRefusesRow.holds Try.pinned (OpenSpec.ofChange deflateRefusesSpec)

/-- ITS FALSE NEIGHBOUR: 'it returns false'. Refute it at one input. -/
def deflateRefusesWrong : ChangeSpec := { name := "deflateRefuses", fn := fun _ => fun
  | [d1, d2] => { results := [.lit (.bool false)], args := [d1, d2] }
  | _ => none }
def DeflateRefusesWrongFalsely : Prop := deflateRefusesRow.holds Try.pinned (OpenSpec.ofChange deflateRefusesWrong)

/-- 'halftonelaw07.DeflateBack': WHATEVER THE INPUT: true; the input reads as it did. -/
def deflateBackSpec : ChangeSpec := { name := "deflateBack", fn := fun _ => fun
  | [d1, d2] => { results := [.lit (.bool true)], args := [d1, d2] }
  | _ => none }
def deflateBackRow : OpenClaim := { program := "ytdpocnkeokplpaa", sum := "0a638c2763deb14cef7fe6160eeaa3c53a5b847452c03a4980a3012a042b3d31", func := "halftone/halftonelaw07.DeflateBack", spec := "deflateBack", unfollowed := true, recurses := true, plainKeys := false, apart := false }
def DeflateBackSaid : Prop := deflateBackRow.holds Try.pinned (OpenSpec.ofChange deflateBackSpec)

/-- ITS FALSE NEIGHBOUR: 'it returns false'. Refute it at one input. -/
def deflateBackWrong : ChangeSpec := { name := "deflateBack", fn := fun _ => fun
  | [d1, d2] => { results := [.lit (.bool false)], args := [d1, d2] }
  | _ => none }
def DeflateBackWrongFalsely : Prop := deflateBackRow.holds Try.pinned (OpenSpec.ofChange deflateBackWrong)

/-- 'halftonelaw07.DeflateLong': WHATEVER THE INPUT: true; the input reads as it did. -/
def deflateLongSpec : ChangeSpec := { name := "deflateLong", fn := fun _ => fun
  | [d1, d2, d3] => { results := [.lit (.bool true)], args := [d1, d2, d3] }
  | _ => none }
def deflateLongRow : OpenClaim := { program := "ytdpocnkeokplpaa", sum := "0a638c2763deb14cef7fe6160eeaa3c53a5b847452c03a4980a3012a042b3d31", func := "halftone/halftonelaw07.DeflateLong", spec := "deflateLong", unfollowed := true, recurses := true, plainKeys := false, apart := false }
def DeflateLongSaid : Prop := deflateLongRow.holds Try.pinned (OpenSpec.ofChange deflateLongSpec)

/-- ITS FALSE NEIGHBOUR: 'it returns false'. Refute it at one input. -/
def deflateLongWrong : ChangeSpec := { name := "deflateLong", fn := fun _ => fun
  | [d1, d2, d3] => { results := [.lit (.bool false)], args := [d1, d2, d3] }
  | _ => none }
def DeflateLongWrongFalsely : Prop := deflateLongRow.holds Try.pinned (OpenSpec.ofChange deflateLongWrong)

/-- 'halftonelaw08.ZlibFoot': WHATEVER THE INPUT: true; the input reads as it did. -/
def zlibFootSpec : ChangeSpec := { name := "zlibFoot", fn := fun _ => fun
  | [d1, d2, d3, d4] => { results := [.lit (.bool true)], args := [d1, d2, d3, d4] }
  | _ => none }
def zlibFootRow : OpenClaim := { program := "ytdpocnkeokplpaa", sum := "0a638c2763deb14cef7fe6160eeaa3c53a5b847452c03a4980a3012a042b3d31", func := "halftone/halftonelaw08.ZlibFoot", spec := "zlibFoot", unfollowed := true, recurses := true, plainKeys := false, apart := false }
def ZlibFootSaid : Prop := zlibFootRow.holds Try.pinned (OpenSpec.ofChange zlibFootSpec)

/-- ITS FALSE NEIGHBOUR: 'it returns false'. Refute it at one input. -/
def zlibFootWrong : ChangeSpec := { name := "zlibFoot", fn := fun _ => fun
  | [d1, d2, d3, d4] => { results := [.lit (.bool false)], args := [d1, d2, d3, d4] }
  | _ => none }
def ZlibFootWrongFalsely : Prop := zlibFootRow.holds Try.pinned (OpenSpec.ofChange zlibFootWrong)

/-- 'halftonelaw08.ZlibCuts': WHATEVER THE INPUT: true; the input reads as it did. -/
def zlibCutsSpec : ChangeSpec := { name := "zlibCuts", fn := fun _ => fun
  | [d1, d2, d3] => { results := [.lit (.bool true)], args := [d1, d2, d3] }
  | _ => none }
def zlibCutsRow : OpenClaim := { program := "ytdpocnkeokplpaa", sum := "0a638c2763deb14cef7fe6160eeaa3c53a5b847452c03a4980a3012a042b3d31", func := "halftone/halftonelaw08.ZlibCuts", spec := "zlibCuts", unfollowed := true, recurses := true, plainKeys := false, apart := false }
def ZlibCutsSaid : Prop := zlibCutsRow.holds Try.pinned (OpenSpec.ofChange zlibCutsSpec)

/-- ITS FALSE NEIGHBOUR: 'it returns false'. Refute it at one input. -/
def zlibCutsWrong : ChangeSpec := { name := "zlibCuts", fn := fun _ => fun
  | [d1, d2, d3] => { results := [.lit (.bool false)], args := [d1, d2, d3] }
  | _ => none }
def ZlibCutsWrongFalsely : Prop := zlibCutsRow.holds Try.pinned (OpenSpec.ofChange zlibCutsWrong)

/-- 'halftonelaw08.ZlibNil': WHATEVER THE INPUT: true; the input reads as it did. -/
def zlibNilSpec : ChangeSpec := { name := "zlibNil", fn := fun _ => fun
  | [d1, d2] => { results := [.lit (.bool true)], args := [d1, d2] }
  | _ => none }
def zlibNilRow : OpenClaim := { program := "ytdpocnkeokplpaa", sum := "0a638c2763deb14cef7fe6160eeaa3c53a5b847452c03a4980a3012a042b3d31", func := "halftone/halftonelaw08.ZlibNil", spec := "zlibNil", unfollowed := true, recurses := true, plainKeys := false, apart := false }
def ZlibNilSaid : Prop := zlibNilRow.holds Try.pinned (OpenSpec.ofChange zlibNilSpec)

/-- ITS FALSE NEIGHBOUR: 'it returns false'. Refute it at one input. -/
def zlibNilWrong : ChangeSpec := { name := "zlibNil", fn := fun _ => fun
  | [d1, d2] => { results := [.lit (.bool false)], args := [d1, d2] }
  | _ => none }
def ZlibNilWrongFalsely : Prop := zlibNilRow.holds Try.pinned (OpenSpec.ofChange zlibNilWrong)

/- THE SECOND FORM. 'bulk': how many values and letters a reading holds, each counted each time it is reached (what is shared counts as often as it is met; a slice's spare places count too). A statement '..UptoSaid' is the law's where the arguments, and the package variables that the reading takes, are together of bulk at most 1048576: NARROWER than '..Said'. Prove '..Said' where nothing that the law and all that it calls make is longer than what came in: it says more and counts as full. Else prove '..UptoSaid'. A law counts once. -/
mutual
def uptoBulk {H : Type} : DataW H → Nat
  | .lit (.string bytes) => bytes.length + 1
  | .lit _ => 1
  | .nil => 1
  | .ptr d => uptoBulk d + 1
  | .slice elems spare => uptoBulkAll elems + uptoBulkAll spare + 1
  | .agg parts => uptoBulkAll parts + 1
  | .iface _ d => uptoBulk d + 1
  | .map entries => uptoBulkEntries entries + 1
  | .held _ => 1
def uptoBulkAll {H : Type} : List (DataW H) → Nat
  | [] => 0
  | d :: r => uptoBulk d + uptoBulkAll r
def uptoBulkEntries {H : Type} : List (Lit × DataW H) → Nat
  | [] => 0
  | x :: r => uptoBulkEntry x + uptoBulkEntries r
def uptoBulkEntry {H : Type} : Lit × DataW H → Nat
  | (.string bytes, d) => bytes.length + uptoBulk d + 1
  | (_, d) => uptoBulk d + 1
 end
def uptoSmall : (H : Type) → List (DataW H) → Bool := fun _ ds => decide (uptoBulkAll ds ≤ 1048576)
def OpenSpec.upto (s : _root_.Go.ChangeSpec) : _root_.Go.OpenSpec := { _root_.Go.OpenSpec.ofChange s with cond := some uptoSmall }

/-- 'halftonelaw07.DeflateKinds', WHERE WHAT IT READS IS OF BULK AT MOST 1048576: true; the input reads as it did. -/
def deflateKindsUptoRow : OpenClaim := { program := "ytdpocnkeokplpaa", sum := "0a638c2763deb14cef7fe6160eeaa3c53a5b847452c03a4980a3012a042b3d31", func := "halftone/halftonelaw07.DeflateKinds", spec := "deflateKinds", unfollowed := true, recurses := true, plainKeys := false, apart := false, narrowed := true }
def DeflateKindsUptoSaid : Prop := deflateKindsUptoRow.holds Try.pinned (OpenSpec.upto deflateKindsSpec)

/-- 'halftonelaw07.DeflateBounds', WHERE WHAT IT READS IS OF BULK AT MOST 1048576: true; the input reads as it did. -/
def deflateBoundsUptoRow : OpenClaim := { program := "ytdpocnkeokplpaa", sum := "0a638c2763deb14cef7fe6160eeaa3c53a5b847452c03a4980a3012a042b3d31", func := "halftone/halftonelaw07.DeflateBounds", spec := "deflateBounds", unfollowed := true, recurses := true, plainKeys := false, apart := false, narrowed := true }
def DeflateBoundsUptoSaid : Prop := deflateBoundsUptoRow.holds Try.pinned (OpenSpec.upto deflateBoundsSpec)

/-- 'halftonelaw07.DeflateRuns', WHERE WHAT IT READS IS OF BULK AT MOST 1048576: true; the input reads as it did. -/
def deflateRunsUptoRow : OpenClaim := { program := "ytdpocnkeokplpaa", sum := "0a638c2763deb14cef7fe6160eeaa3c53a5b847452c03a4980a3012a042b3d31", func := "halftone/halftonelaw07.DeflateRuns", spec := "deflateRuns", unfollowed := true, recurses := true, plainKeys := false, apart := false, narrowed := true }
def DeflateRunsUptoSaid : Prop := deflateRunsUptoRow.holds Try.pinned (OpenSpec.upto deflateRunsSpec)

/-- 'halftonelaw07.DeflateTwice', WHERE WHAT IT READS IS OF BULK AT MOST 1048576: true; the input reads as it did. -/
def deflateTwiceUptoRow : OpenClaim := { program := "ytdpocnkeokplpaa", sum := "0a638c2763deb14cef7fe6160eeaa3c53a5b847452c03a4980a3012a042b3d31", func := "halftone/halftonelaw07.DeflateTwice", spec := "deflateTwice", unfollowed := true, recurses := true, plainKeys := false, apart := false, narrowed := true }
def DeflateTwiceUptoSaid : Prop := deflateTwiceUptoRow.holds Try.pinned (OpenSpec.upto deflateTwiceSpec)

/-- 'halftonelaw07.DeflateRefuses', WHERE WHAT IT READS IS OF BULK AT MOST 1048576: true; the input reads as it did. -/
def deflateRefusesUptoRow : OpenClaim := { program := "ytdpocnkeokplpaa", sum := "0a638c2763deb14cef7fe6160eeaa3c53a5b847452c03a4980a3012a042b3d31", func := "halftone/halftonelaw07.DeflateRefuses", spec := "deflateRefuses", unfollowed := true, recurses := true, plainKeys := false, apart := false, narrowed := true }
def DeflateRefusesUptoSaid : Prop := deflateRefusesUptoRow.holds Try.pinned (OpenSpec.upto deflateRefusesSpec)

/-- 'halftonelaw07.DeflateBack', WHERE WHAT IT READS IS OF BULK AT MOST 1048576: true; the input reads as it did. -/
def deflateBackUptoRow : OpenClaim := { program := "ytdpocnkeokplpaa", sum := "0a638c2763deb14cef7fe6160eeaa3c53a5b847452c03a4980a3012a042b3d31", func := "halftone/halftonelaw07.DeflateBack", spec := "deflateBack", unfollowed := true, recurses := true, plainKeys := false, apart := false, narrowed := true }
def DeflateBackUptoSaid : Prop := deflateBackUptoRow.holds Try.pinned (OpenSpec.upto deflateBackSpec)

/-- 'halftonelaw07.DeflateLong', WHERE WHAT IT READS IS OF BULK AT MOST 1048576: true; the input reads as it did. -/
def deflateLongUptoRow : OpenClaim := { program := "ytdpocnkeokplpaa", sum := "0a638c2763deb14cef7fe6160eeaa3c53a5b847452c03a4980a3012a042b3d31", func := "halftone/halftonelaw07.DeflateLong", spec := "deflateLong", unfollowed := true, recurses := true, plainKeys := false, apart := false, narrowed := true }
def DeflateLongUptoSaid : Prop := deflateLongUptoRow.holds Try.pinned (OpenSpec.upto deflateLongSpec)

/-- 'halftonelaw08.ZlibFoot', WHERE WHAT IT READS IS OF BULK AT MOST 1048576: true; the input reads as it did. -/
def zlibFootUptoRow : OpenClaim := { program := "ytdpocnkeokplpaa", sum := "0a638c2763deb14cef7fe6160eeaa3c53a5b847452c03a4980a3012a042b3d31", func := "halftone/halftonelaw08.ZlibFoot", spec := "zlibFoot", unfollowed := true, recurses := true, plainKeys := false, apart := false, narrowed := true }
def ZlibFootUptoSaid : Prop := zlibFootUptoRow.holds Try.pinned (OpenSpec.upto zlibFootSpec)

/-- 'halftonelaw08.ZlibCuts', WHERE WHAT IT READS IS OF BULK AT MOST 1048576: true; the input reads as it did. -/
def zlibCutsUptoRow : OpenClaim := { program := "ytdpocnkeokplpaa", sum := "0a638c2763deb14cef7fe6160eeaa3c53a5b847452c03a4980a3012a042b3d31", func := "halftone/halftonelaw08.ZlibCuts", spec := "zlibCuts", unfollowed := true, recurses := true, plainKeys := false, apart := false, narrowed := true }
def ZlibCutsUptoSaid : Prop := zlibCutsUptoRow.holds Try.pinned (OpenSpec.upto zlibCutsSpec)

/-- 'halftonelaw08.ZlibNil', WHERE WHAT IT READS IS OF BULK AT MOST 1048576: true; the input reads as it did. -/
def zlibNilUptoRow : OpenClaim := { program := "ytdpocnkeokplpaa", sum := "0a638c2763deb14cef7fe6160eeaa3c53a5b847452c03a4980a3012a042b3d31", func := "halftone/halftonelaw08.ZlibNil", spec := "zlibNil", unfollowed := true, recurses := true, plainKeys := false, apart := false, narrowed := true }
def ZlibNilUptoSaid : Prop := zlibNilUptoRow.holds Try.pinned (OpenSpec.upto zlibNilSpec)

end Rows
end Go.Proofs.Ytdpocnkeokplpaa
