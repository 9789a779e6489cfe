/-
  No cell of these rows narrows 'for every input' (looked for: loops, veiled, ifaces, maps, wideKeys, modest, calm, conditions, laid).
  DERIVED. THE GIVEN ROWS OF THIS SEAT. 12 by the template 'for every input the law returns true; each argument reads behind the call as it read before'; 0 by the template 'total and deterministic' (their statements: YtobkmkdnkdbgeaaTotals.lean).
  GIVEN WITH THE SEED: the statements are not yours to turn. If you find one false, say at which input.
  Laid BY PROGRAM, IN A SANDBOX (cutbox-rows.mjs): the forced cells as the released guide's own fill.sh prints them over the translation db25723a819b2971… (all of the seat's roots in one cut). By AI agents, Wed Nov 11 2026. No macro, syntax, notation, axiom, sorry.
-/
import Derived.Test.YtobkmkdnkdbgeaaChecked
import GoSem.Claim
import GoSem.ClaimJoined
import GoSem.ClaimMapViews
import Derived.JoinedTies
import Derived.KernelRfl
namespace Go.Proofs.Ytobkmkdnkdbgeaa
/- THE CELL 'sum', in the pinned program and in every row, IS THE sha256 OF THE DUMP (.gsa) THAT YtobkmkdnkdbgeaaProg.lean LOADS. Nothing in Lean hashes anything: it is a label: what it is worth is what the hold of that sum in a sandbox is worth. -/
noncomputable def Try.pinned : Pinned := { name := "ytobkmkdnkdbgeaa", sum := "db25723a819b2971261ad3e5dc564dd563af0ad05b47b0ee5a069813e95866e4", checked := Try.checked }
namespace Rows
def none {H : Type} : Left H := { results := [], args := [] }

/-- 'halftonelaw05.HuffMakes': WHATEVER THE INPUT: true; the input reads as it did. -/
def huffMakesSpec : ChangeSpec := { name := "huffMakes", fn := fun _ => fun
  | [d1, d2] => { results := [.lit (.bool true)], args := [d1, d2] }
  | _ => none }
def huffMakesRow : OpenClaim := { program := "ytobkmkdnkdbgeaa", sum := "db25723a819b2971261ad3e5dc564dd563af0ad05b47b0ee5a069813e95866e4", func := "halftone/halftonelaw05.HuffMakes", spec := "huffMakes", unfollowed := true, recurses := true, plainKeys := false, apart := false }
def HuffMakesSaid : Prop := huffMakesRow.holds Try.pinned (OpenSpec.ofChange huffMakesSpec)

/-- ITS FALSE NEIGHBOUR: 'it returns false'. Refute it at one input. -/
def huffMakesWrong : ChangeSpec := { name := "huffMakes", fn := fun _ => fun
  | [d1, d2] => { results := [.lit (.bool false)], args := [d1, d2] }
  | _ => none }
def HuffMakesWrongFalsely : Prop := huffMakesRow.holds Try.pinned (OpenSpec.ofChange huffMakesWrong)

/-- 'halftonelaw05.HuffFree': WHATEVER THE INPUT: true; the input reads as it did. -/
def huffFreeSpec : ChangeSpec := { name := "huffFree", fn := fun _ => fun
  | [d] => { results := [.lit (.bool true)], args := [d] }
  | _ => none }
def huffFreeRow : OpenClaim := { program := "ytobkmkdnkdbgeaa", sum := "db25723a819b2971261ad3e5dc564dd563af0ad05b47b0ee5a069813e95866e4", func := "halftone/halftonelaw05.HuffFree", spec := "huffFree", unfollowed := true, recurses := true, plainKeys := false, apart := false }
def HuffFreeSaid : Prop := huffFreeRow.holds Try.pinned (OpenSpec.ofChange huffFreeSpec)

/-- ITS FALSE NEIGHBOUR: 'it returns false'. Refute it at one input. -/
def huffFreeWrong : ChangeSpec := { name := "huffFree", fn := fun _ => fun
  | [d] => { results := [.lit (.bool false)], args := [d] }
  | _ => none }
def HuffFreeWrongFalsely : Prop := huffFreeRow.holds Try.pinned (OpenSpec.ofChange huffFreeWrong)

/-- 'halftonelaw05.HuffLengths': WHATEVER THE INPUT: true; the input reads as it did. -/
def huffLengthsSpec : ChangeSpec := { name := "huffLengths", fn := fun _ => fun
  | [d1, d2] => { results := [.lit (.bool true)], args := [d1, d2] }
  | _ => none }
def huffLengthsRow : OpenClaim := { program := "ytobkmkdnkdbgeaa", sum := "db25723a819b2971261ad3e5dc564dd563af0ad05b47b0ee5a069813e95866e4", func := "halftone/halftonelaw05.HuffLengths", spec := "huffLengths", unfollowed := true, recurses := true, plainKeys := false, apart := false }
def HuffLengthsSaid : Prop := huffLengthsRow.holds Try.pinned (OpenSpec.ofChange huffLengthsSpec)

/-- ITS FALSE NEIGHBOUR: 'it returns false'. Refute it at one input. -/
def huffLengthsWrong : ChangeSpec := { name := "huffLengths", fn := fun _ => fun
  | [d1, d2] => { results := [.lit (.bool false)], args := [d1, d2] }
  | _ => none }
def HuffLengthsWrongFalsely : Prop := huffLengthsRow.holds Try.pinned (OpenSpec.ofChange huffLengthsWrong)

/-- 'halftonelaw05.HuffReads': WHATEVER THE INPUT: true; the input reads as it did. -/
def huffReadsSpec : ChangeSpec := { name := "huffReads", fn := fun _ => fun
  | [d1, d2] => { results := [.lit (.bool true)], args := [d1, d2] }
  | _ => none }
def huffReadsRow : OpenClaim := { program := "ytobkmkdnkdbgeaa", sum := "db25723a819b2971261ad3e5dc564dd563af0ad05b47b0ee5a069813e95866e4", func := "halftone/halftonelaw05.HuffReads", spec := "huffReads", unfollowed := true, recurses := true, plainKeys := false, apart := false }
def HuffReadsSaid : Prop := huffReadsRow.holds Try.pinned (OpenSpec.ofChange huffReadsSpec)

/-- ITS FALSE NEIGHBOUR: 'it returns false'. Refute it at one input. -/
def huffReadsWrong : ChangeSpec := { name := "huffReads", fn := fun _ => fun
  | [d1, d2] => { results := [.lit (.bool false)], args := [d1, d2] }
  | _ => none }
def HuffReadsWrongFalsely : Prop := huffReadsRow.holds Try.pinned (OpenSpec.ofChange huffReadsWrong)

/-- 'halftonelaw05.HuffNil': WHATEVER THE INPUT: true; the input reads as it did. -/
def huffNilSpec : ChangeSpec := { name := "huffNil", fn := fun _ => fun
  | [d1, d2, d3] => { results := [.lit (.bool true)], args := [d1, d2, d3] }
  | _ => none }
def huffNilRow : OpenClaim := { program := "ytobkmkdnkdbgeaa", sum := "db25723a819b2971261ad3e5dc564dd563af0ad05b47b0ee5a069813e95866e4", func := "halftone/halftonelaw05.HuffNil", spec := "huffNil", unfollowed := true, recurses := true, plainKeys := false, apart := false }
def HuffNilSaid : Prop := huffNilRow.holds Try.pinned (OpenSpec.ofChange huffNilSpec)

/-- ITS FALSE NEIGHBOUR: 'it returns false'. Refute it at one input. -/
def huffNilWrong : ChangeSpec := { name := "huffNil", fn := fun _ => fun
  | [d1, d2, d3] => { results := [.lit (.bool false)], args := [d1, d2, d3] }
  | _ => none }
def HuffNilWrongFalsely : Prop := huffNilRow.holds Try.pinned (OpenSpec.ofChange huffNilWrong)

/-- 'halftonelaw05.HuffBack': WHATEVER THE INPUT: true; the input reads as it did. -/
def huffBackSpec : ChangeSpec := { name := "huffBack", fn := fun _ => fun
  | [d1, d2] => { results := [.lit (.bool true)], args := [d1, d2] }
  | _ => none }
def huffBackRow : OpenClaim := { program := "ytobkmkdnkdbgeaa", sum := "db25723a819b2971261ad3e5dc564dd563af0ad05b47b0ee5a069813e95866e4", func := "halftone/halftonelaw05.HuffBack", spec := "huffBack", unfollowed := true, recurses := true, plainKeys := false, apart := false }
def HuffBackSaid : Prop := huffBackRow.holds Try.pinned (OpenSpec.ofChange huffBackSpec)

/-- ITS FALSE NEIGHBOUR: 'it returns false'. Refute it at one input. -/
def huffBackWrong : ChangeSpec := { name := "huffBack", fn := fun _ => fun
  | [d1, d2] => { results := [.lit (.bool false)], args := [d1, d2] }
  | _ => none }
def HuffBackWrongFalsely : Prop := huffBackRow.holds Try.pinned (OpenSpec.ofChange huffBackWrong)

/-- 'halftonelaw06.InflateStored': WHATEVER THE INPUT: true; the input reads as it did. -/
def inflateStoredSpec : ChangeSpec := { name := "inflateStored", fn := fun _ => fun
  | [d1, d2, d3] => { results := [.lit (.bool true)], args := [d1, d2, d3] }
  | _ => none }
def inflateStoredRow : OpenClaim := { program := "ytobkmkdnkdbgeaa", sum := "db25723a819b2971261ad3e5dc564dd563af0ad05b47b0ee5a069813e95866e4", func := "halftone/halftonelaw06.InflateStored", spec := "inflateStored", unfollowed := true, recurses := true, plainKeys := false, apart := false }
def InflateStoredSaid : Prop := inflateStoredRow.holds Try.pinned (OpenSpec.ofChange inflateStoredSpec)

/-- ITS FALSE NEIGHBOUR: 'it returns false'. Refute it at one input. -/
def inflateStoredWrong : ChangeSpec := { name := "inflateStored", fn := fun _ => fun
  | [d1, d2, d3] => { results := [.lit (.bool false)], args := [d1, d2, d3] }
  | _ => none }
def InflateStoredWrongFalsely : Prop := inflateStoredRow.holds Try.pinned (OpenSpec.ofChange inflateStoredWrong)

/-- 'halftonelaw06.InflateBegins': WHATEVER THE INPUT: true; the input reads as it did. -/
def inflateBeginsSpec : ChangeSpec := { name := "inflateBegins", fn := fun _ => fun
  | [d1, d2] => { results := [.lit (.bool true)], args := [d1, d2] }
  | _ => none }
def inflateBeginsRow : OpenClaim := { program := "ytobkmkdnkdbgeaa", sum := "db25723a819b2971261ad3e5dc564dd563af0ad05b47b0ee5a069813e95866e4", func := "halftone/halftonelaw06.InflateBegins", spec := "inflateBegins", unfollowed := true, recurses := true, plainKeys := false, apart := false }
def InflateBeginsSaid : Prop := inflateBeginsRow.holds Try.pinned (OpenSpec.ofChange inflateBeginsSpec)

/-- ITS FALSE NEIGHBOUR: 'it returns false'. Refute it at one input. -/
def inflateBeginsWrong : ChangeSpec := { name := "inflateBegins", fn := fun _ => fun
  | [d1, d2] => { results := [.lit (.bool false)], args := [d1, d2] }
  | _ => none }
def InflateBeginsWrongFalsely : Prop := inflateBeginsRow.holds Try.pinned (OpenSpec.ofChange inflateBeginsWrong)

/-- 'halftonelaw06.InflateReads': WHATEVER THE INPUT: true; the input reads as it did. -/
def inflateReadsSpec : ChangeSpec := { name := "inflateReads", fn := fun _ => fun
  | [d1, d2, d3] => { results := [.lit (.bool true)], args := [d1, d2, d3] }
  | _ => none }
def inflateReadsRow : OpenClaim := { program := "ytobkmkdnkdbgeaa", sum := "db25723a819b2971261ad3e5dc564dd563af0ad05b47b0ee5a069813e95866e4", func := "halftone/halftonelaw06.InflateReads", spec := "inflateReads", unfollowed := true, recurses := true, plainKeys := false, apart := false }
def InflateReadsSaid : Prop := inflateReadsRow.holds Try.pinned (OpenSpec.ofChange inflateReadsSpec)

/-- ITS FALSE NEIGHBOUR: 'it returns false'. Refute it at one input. -/
def inflateReadsWrong : ChangeSpec := { name := "inflateReads", fn := fun _ => fun
  | [d1, d2, d3] => { results := [.lit (.bool false)], args := [d1, d2, d3] }
  | _ => none }
def InflateReadsWrongFalsely : Prop := inflateReadsRow.holds Try.pinned (OpenSpec.ofChange inflateReadsWrong)

/-- 'halftonelaw06.InflateCuts': WHATEVER THE INPUT: true; the input reads as it did. -/
def inflateCutsSpec : ChangeSpec := { name := "inflateCuts", fn := fun _ => fun
  | [d1, d2, d3] => { results := [.lit (.bool true)], args := [d1, d2, d3] }
  | _ => none }
def inflateCutsRow : OpenClaim := { program := "ytobkmkdnkdbgeaa", sum := "db25723a819b2971261ad3e5dc564dd563af0ad05b47b0ee5a069813e95866e4", func := "halftone/halftonelaw06.InflateCuts", spec := "inflateCuts", unfollowed := true, recurses := true, plainKeys := false, apart := false }
def InflateCutsSaid : Prop := inflateCutsRow.holds Try.pinned (OpenSpec.ofChange inflateCutsSpec)

/-- ITS FALSE NEIGHBOUR: 'it returns false'. Refute it at one input. -/
def inflateCutsWrong : ChangeSpec := { name := "inflateCuts", fn := fun _ => fun
  | [d1, d2, d3] => { results := [.lit (.bool false)], args := [d1, d2, d3] }
  | _ => none }
def InflateCutsWrongFalsely : Prop := inflateCutsRow.holds Try.pinned (OpenSpec.ofChange inflateCutsWrong)

/-- 'halftonelaw06.InflateBehind': WHATEVER THE INPUT: true; the input reads as it did. -/
def inflateBehindSpec : ChangeSpec := { name := "inflateBehind", fn := fun _ => fun
  | [d1, d2] => { results := [.lit (.bool true)], args := [d1, d2] }
  | _ => none }
def inflateBehindRow : OpenClaim := { program := "ytobkmkdnkdbgeaa", sum := "db25723a819b2971261ad3e5dc564dd563af0ad05b47b0ee5a069813e95866e4", func := "halftone/halftonelaw06.InflateBehind", spec := "inflateBehind", unfollowed := true, recurses := true, plainKeys := false, apart := false }
def InflateBehindSaid : Prop := inflateBehindRow.holds Try.pinned (OpenSpec.ofChange inflateBehindSpec)

/-- ITS FALSE NEIGHBOUR: 'it returns false'. Refute it at one input. -/
def inflateBehindWrong : ChangeSpec := { name := "inflateBehind", fn := fun _ => fun
  | [d1, d2] => { results := [.lit (.bool false)], args := [d1, d2] }
  | _ => none }
def InflateBehindWrongFalsely : Prop := inflateBehindRow.holds Try.pinned (OpenSpec.ofChange inflateBehindWrong)

/-- 'halftonelaw06.InflateNil': WHATEVER THE INPUT: true; the input reads as it did. -/
def inflateNilSpec : ChangeSpec := { name := "inflateNil", fn := fun _ => fun
  | [d1, d2] => { results := [.lit (.bool true)], args := [d1, d2] }
  | _ => none }
def inflateNilRow : OpenClaim := { program := "ytobkmkdnkdbgeaa", sum := "db25723a819b2971261ad3e5dc564dd563af0ad05b47b0ee5a069813e95866e4", func := "halftone/halftonelaw06.InflateNil", spec := "inflateNil", unfollowed := true, recurses := true, plainKeys := false, apart := false }
def InflateNilSaid : Prop := inflateNilRow.holds Try.pinned (OpenSpec.ofChange inflateNilSpec)

/-- ITS FALSE NEIGHBOUR: 'it returns false'. Refute it at one input. -/
def inflateNilWrong : ChangeSpec := { name := "inflateNil", fn := fun _ => fun
  | [d1, d2] => { results := [.lit (.bool false)], args := [d1, d2] }
  | _ => none }
def InflateNilWrongFalsely : Prop := inflateNilRow.holds Try.pinned (OpenSpec.ofChange inflateNilWrong)

/- THE SECOND FORM. 'bulk': how many values and letters a reading holds, each counted each time it is reached (what is shared counts as often as it is met; a slice's spare places count too). A statement '..UptoSaid' is the law's where the arguments, and the package variables that the reading takes, are together of bulk at most 1048576: NARROWER than '..Said'. Prove '..Said' where nothing that the law and all that it calls make is longer than what came in: it says more and counts as full. Else prove '..UptoSaid'. A law counts once. -/
mutual
def uptoBulk {H : Type} : DataW H → Nat
  | .lit (.string bytes) => bytes.length + 1
  | .lit _ => 1
  | .nil => 1
  | .ptr d => uptoBulk d + 1
  | .slice elems spare => uptoBulkAll elems + uptoBulkAll spare + 1
  | .agg parts => uptoBulkAll parts + 1
  | .iface _ d => uptoBulk d + 1
  | .map entries => uptoBulkEntries entries + 1
  | .held _ => 1
def uptoBulkAll {H : Type} : List (DataW H) → Nat
  | [] => 0
  | d :: r => uptoBulk d + uptoBulkAll r
def uptoBulkEntries {H : Type} : List (Lit × DataW H) → Nat
  | [] => 0
  | x :: r => uptoBulkEntry x + uptoBulkEntries r
def uptoBulkEntry {H : Type} : Lit × DataW H → Nat
  | (.string bytes, d) => bytes.length + uptoBulk d + 1
  | (_, d) => uptoBulk d + 1
 end
def uptoSmall : (H : Type) → List (DataW H) → Bool := fun _ ds => decide (uptoBulkAll ds ≤ 1048576)
def OpenSpec.upto (s : _root_.Go.ChangeSpec) : _root_.Go.OpenSpec := { _root_.Go.OpenSpec.ofChange s with cond := some uptoSmall }

/-- 'halftonelaw05.HuffMakes', WHERE WHAT IT READS IS OF BULK AT MOST 1048576: true; the input reads as it did. -/
def huffMakesUptoRow : OpenClaim := { program := "ytobkmkdnkdbgeaa", sum := "db25723a819b2971261ad3e5dc564dd563af0ad05b47b0ee5a069813e95866e4", func := "halftone/halftonelaw05.HuffMakes", spec := "huffMakes", unfollowed := true, recurses := true, plainKeys := false, apart := false, narrowed := true }
def HuffMakesUptoSaid : Prop := huffMakesUptoRow.holds Try.pinned (OpenSpec.upto huffMakesSpec)

/-- 'halftonelaw05.HuffFree', WHERE WHAT IT READS IS OF BULK AT MOST 1048576: true; the input reads as it did. -/
def huffFreeUptoRow : OpenClaim := { program := "ytobkmkdnkdbgeaa", sum := "db25723a819b2971261ad3e5dc564dd563af0ad05b47b0ee5a069813e95866e4", func := "halftone/halftonelaw05.HuffFree", spec := "huffFree", unfollowed := true, recurses := true, plainKeys := false, apart := false, narrowed := true }
def HuffFreeUptoSaid : Prop := huffFreeUptoRow.holds Try.pinned (OpenSpec.upto huffFreeSpec)

/-- 'halftonelaw05.HuffLengths', WHERE WHAT IT READS IS OF BULK AT MOST 1048576: true; the input reads as it did. -/
def huffLengthsUptoRow : OpenClaim := { program := "ytobkmkdnkdbgeaa", sum := "db25723a819b2971261ad3e5dc564dd563af0ad05b47b0ee5a069813e95866e4", func := "halftone/halftonelaw05.HuffLengths", spec := "huffLengths", unfollowed := true, recurses := true, plainKeys := false, apart := false, narrowed := true }
def HuffLengthsUptoSaid : Prop := huffLengthsUptoRow.holds Try.pinned (OpenSpec.upto huffLengthsSpec)

/-- 'halftonelaw05.HuffReads', WHERE WHAT IT READS IS OF BULK AT MOST 1048576: true; the input reads as it did. -/
def huffReadsUptoRow : OpenClaim := { program := "ytobkmkdnkdbgeaa", sum := "db25723a819b2971261ad3e5dc564dd563af0ad05b47b0ee5a069813e95866e4", func := "halftone/halftonelaw05.HuffReads", spec := "huffReads", unfollowed := true, recurses := true, plainKeys := false, apart := false, narrowed := true }
def HuffReadsUptoSaid : Prop := huffReadsUptoRow.holds Try.pinned (OpenSpec.upto huffReadsSpec)

/-- 'halftonelaw05.HuffNil', WHERE WHAT IT READS IS OF BULK AT MOST 1048576: true; the input reads as it did. -/
def huffNilUptoRow : OpenClaim := { program := "ytobkmkdnkdbgeaa", sum := "db25723a819b2971261ad3e5dc564dd563af0ad05b47b0ee5a069813e95866e4", func := "halftone/halftonelaw05.HuffNil", spec := "huffNil", unfollowed := true, recurses := true, plainKeys := false, apart := false, narrowed := true }
def HuffNilUptoSaid : Prop := huffNilUptoRow.holds Try.pinned (OpenSpec.upto huffNilSpec)

/-- 'halftonelaw05.HuffBack', WHERE WHAT IT READS IS OF BULK AT MOST 1048576: true; the input reads as it did. -/
def huffBackUptoRow : OpenClaim := { program := "ytobkmkdnkdbgeaa", sum := "db25723a819b2971261ad3e5dc564dd563af0ad05b47b0ee5a069813e95866e4", func := "halftone/halftonelaw05.HuffBack", spec := "huffBack", unfollowed := true, recurses := true, plainKeys := false, apart := false, narrowed := true }
def HuffBackUptoSaid : Prop := huffBackUptoRow.holds Try.pinned (OpenSpec.upto huffBackSpec)

/-- 'halftonelaw06.InflateStored', WHERE WHAT IT READS IS OF BULK AT MOST 1048576: true; the input reads as it did. -/
def inflateStoredUptoRow : OpenClaim := { program := "ytobkmkdnkdbgeaa", sum := "db25723a819b2971261ad3e5dc564dd563af0ad05b47b0ee5a069813e95866e4", func := "halftone/halftonelaw06.InflateStored", spec := "inflateStored", unfollowed := true, recurses := true, plainKeys := false, apart := false, narrowed := true }
def InflateStoredUptoSaid : Prop := inflateStoredUptoRow.holds Try.pinned (OpenSpec.upto inflateStoredSpec)

/-- 'halftonelaw06.InflateBegins', WHERE WHAT IT READS IS OF BULK AT MOST 1048576: true; the input reads as it did. -/
def inflateBeginsUptoRow : OpenClaim := { program := "ytobkmkdnkdbgeaa", sum := "db25723a819b2971261ad3e5dc564dd563af0ad05b47b0ee5a069813e95866e4", func := "halftone/halftonelaw06.InflateBegins", spec := "inflateBegins", unfollowed := true, recurses := true, plainKeys := false, apart := false, narrowed := true }
def InflateBeginsUptoSaid : Prop := inflateBeginsUptoRow.holds Try.pinned (OpenSpec.upto inflateBeginsSpec)

/-- 'halftonelaw06.InflateReads', WHERE WHAT IT READS IS OF BULK AT MOST 1048576: true; the input reads as it did. -/
def inflateReadsUptoRow : OpenClaim := { program := "ytobkmkdnkdbgeaa", sum := "db25723a819b2971261ad3e5dc564dd563af0ad05b47b0ee5a069813e95866e4", func := "halftone/halftonelaw06.InflateReads", spec := "inflateReads", unfollowed := true, recurses := true, plainKeys := false, apart := false, narrowed := true }
def InflateReadsUptoSaid : Prop := inflateReadsUptoRow.holds Try.pinned (OpenSpec.upto inflateReadsSpec)

/-- 'halftonelaw06.InflateCuts', WHERE WHAT IT READS IS OF BULK AT MOST 1048576: true; the input reads as it did. -/
def inflateCutsUptoRow : OpenClaim := { program := "ytobkmkdnkdbgeaa", sum := "db25723a819b2971261ad3e5dc564dd563af0ad05b47b0ee5a069813e95866e4", func := "halftone/halftonelaw06.InflateCuts", spec := "inflateCuts", unfollowed := true, recurses := true, plainKeys := false, apart := false, narrowed := true }
def InflateCutsUptoSaid : Prop := inflateCutsUptoRow.holds Try.pinned (OpenSpec.upto inflateCutsSpec)

/-- 'halftonelaw06.InflateBehind', WHERE WHAT IT READS IS OF BULK AT MOST 1048576: true; the input reads as it did. -/
def inflateBehindUptoRow : OpenClaim := { program := "ytobkmkdnkdbgeaa", sum := "db25723a819b2971261ad3e5dc564dd563af0ad05b47b0ee5a069813e95866e4", func := "halftone/halftonelaw06.InflateBehind", spec := "inflateBehind", unfollowed := true, recurses := true, plainKeys := false, apart := false, narrowed := true }
def InflateBehindUptoSaid : Prop := inflateBehindUptoRow.holds Try.pinned (OpenSpec.upto inflateBehindSpec)

/-- 'halftonelaw06.InflateNil', WHERE WHAT IT READS IS OF BULK AT MOST 1048576: true; the input reads as it did. -/
def inflateNilUptoRow : OpenClaim := { program := "ytobkmkdnkdbgeaa", sum := "db25723a819b2971261ad3e5dc564dd563af0ad05b47b0ee5a069813e95866e4", func := "halftone/halftonelaw06.InflateNil", spec := "inflateNil", unfollowed := true, recurses := true, plainKeys := false, apart := false, narrowed := true }
def InflateNilUptoSaid : Prop := inflateNilUptoRow.holds Try.pinned (OpenSpec.upto inflateNilSpec)

end Rows
end Go.Proofs.Ytobkmkdnkdbgeaa
