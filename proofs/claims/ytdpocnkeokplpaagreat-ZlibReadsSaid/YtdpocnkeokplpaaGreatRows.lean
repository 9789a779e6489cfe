/-
  No cell of these rows narrows 'for every input' (looked for: loops, veiled, ifaces, maps, wideKeys, modest, calm, conditions, laid).
  DERIVED. THE GIVEN ROWS OF THIS SEAT. 3 by the template 'for every input the law returns true; each argument reads behind the call as it read before'; 0 by the template 'total and deterministic' (their statements: YtdpocnkeokplpaaGreatTotals.lean).
  GIVEN WITH THE SEED: the statements are not yours to turn. If you find one false, say at which input.
  Laid BY PROGRAM, IN A SANDBOX (cutbox-rows.mjs): the forced cells as the released guide's own fill.sh prints them over the translation 345a6fe9ba15a91f… (all of the seat's roots in one cut). By AI agents, Wed Nov 11 2026. No macro, syntax, notation, axiom, sorry.
-/
import Derived.Test.YtdpocnkeokplpaaGreatChecked
import GoSem.Claim
import GoSem.ClaimJoined
import GoSem.ClaimMapViews
import Derived.JoinedTies
import Derived.KernelRfl
namespace Go.Proofs.YtdpocnkeokplpaaGreat
/- THE CELL 'sum', in the pinned program and in every row, IS THE sha256 OF THE DUMP (.gsa) THAT YtdpocnkeokplpaaGreatProg.lean LOADS. Nothing in Lean hashes anything: it is a label: what it is worth is what the hold of that sum in a sandbox is worth. -/
noncomputable def Tryz.pinned : Pinned := { name := "ytdpocnkeokplpaagreat", sum := "345a6fe9ba15a91f19a60585cfbed8507f4535f8aac3bcbe64a3e32ab65d3264", checked := Tryz.checked }
namespace Rows
def none {H : Type} : Left H := { results := [], args := [] }

/-- 'halftonelaw08.ZlibHead': WHATEVER THE INPUT: true; the input reads as it did. -/
def zlibHeadSpec : ChangeSpec := { name := "zlibHead", fn := fun _ => fun
  | [d1, d2, d3] => { results := [.lit (.bool true)], args := [d1, d2, d3] }
  | _ => none }
def zlibHeadRow : OpenClaim := { program := "ytdpocnkeokplpaagreat", sum := "345a6fe9ba15a91f19a60585cfbed8507f4535f8aac3bcbe64a3e32ab65d3264", func := "halftone/halftonelaw08.ZlibHead", spec := "zlibHead", unfollowed := true, recurses := true, plainKeys := false, apart := false }
def ZlibHeadSaid : Prop := zlibHeadRow.holds Tryz.pinned (OpenSpec.ofChange zlibHeadSpec)

/-- ITS FALSE NEIGHBOUR: 'it returns false'. Refute it at one input. -/
def zlibHeadWrong : ChangeSpec := { name := "zlibHead", fn := fun _ => fun
  | [d1, d2, d3] => { results := [.lit (.bool false)], args := [d1, d2, d3] }
  | _ => none }
def ZlibHeadWrongFalsely : Prop := zlibHeadRow.holds Tryz.pinned (OpenSpec.ofChange zlibHeadWrong)

/-- 'halftonelaw08.ZlibBack': WHATEVER THE INPUT: true; the input reads as it did. -/
def zlibBackSpec : ChangeSpec := { name := "zlibBack", fn := fun _ => fun
  | [d1, d2, d3] => { results := [.lit (.bool true)], args := [d1, d2, d3] }
  | _ => none }
def zlibBackRow : OpenClaim := { program := "ytdpocnkeokplpaagreat", sum := "345a6fe9ba15a91f19a60585cfbed8507f4535f8aac3bcbe64a3e32ab65d3264", func := "halftone/halftonelaw08.ZlibBack", spec := "zlibBack", unfollowed := true, recurses := true, plainKeys := false, apart := false }
def ZlibBackSaid : Prop := zlibBackRow.holds Tryz.pinned (OpenSpec.ofChange zlibBackSpec)

/-- ITS FALSE NEIGHBOUR: 'it returns false'. Refute it at one input. -/
def zlibBackWrong : ChangeSpec := { name := "zlibBack", fn := fun _ => fun
  | [d1, d2, d3] => { results := [.lit (.bool false)], args := [d1, d2, d3] }
  | _ => none }
def ZlibBackWrongFalsely : Prop := zlibBackRow.holds Tryz.pinned (OpenSpec.ofChange zlibBackWrong)

/-- 'halftonelaw08.ZlibReads': WHATEVER THE INPUT: true; the input reads as it did. -/
def zlibReadsSpec : ChangeSpec := { name := "zlibReads", fn := fun _ => fun
  | [d1, d2, d3] => { results := [.lit (.bool true)], args := [d1, d2, d3] }
  | _ => none }
def zlibReadsRow : OpenClaim := { program := "ytdpocnkeokplpaagreat", sum := "345a6fe9ba15a91f19a60585cfbed8507f4535f8aac3bcbe64a3e32ab65d3264", func := "halftone/halftonelaw08.ZlibReads", spec := "zlibReads", unfollowed := true, recurses := true, plainKeys := false, apart := false }
def ZlibReadsSaid : Prop := zlibReadsRow.holds Tryz.pinned (OpenSpec.ofChange zlibReadsSpec)

/-- ITS FALSE NEIGHBOUR: 'it returns false'. Refute it at one input. -/
def zlibReadsWrong : ChangeSpec := { name := "zlibReads", fn := fun _ => fun
  | [d1, d2, d3] => { results := [.lit (.bool false)], args := [d1, d2, d3] }
  | _ => none }
def ZlibReadsWrongFalsely : Prop := zlibReadsRow.holds Tryz.pinned (OpenSpec.ofChange zlibReadsWrong)

/- THE SECOND FORM. 'bulk': how many values and letters a reading holds, each counted each time it is reached (what is shared counts as often as it is met; a slice's spare places count too). A statement '..UptoSaid' is the law's where the arguments, and the package variables that the reading takes, are together of bulk at most 1048576: NARROWER than '..Said'. Prove '..Said' where nothing that the law and all that it calls make is longer than what came in: it says more and counts as full. Else prove '..UptoSaid'. A law counts once. -/
mutual
def uptoBulk {H : Type} : DataW H → Nat
  | .lit (.string bytes) => bytes.length + 1
  | .lit _ => 1
  | .nil => 1
  | .ptr d => uptoBulk d + 1
  | .slice elems spare => uptoBulkAll elems + uptoBulkAll spare + 1
  | .agg parts => uptoBulkAll parts + 1
  | .iface _ d => uptoBulk d + 1
  | .map entries => uptoBulkEntries entries + 1
  | .held _ => 1
def uptoBulkAll {H : Type} : List (DataW H) → Nat
  | [] => 0
  | d :: r => uptoBulk d + uptoBulkAll r
def uptoBulkEntries {H : Type} : List (Lit × DataW H) → Nat
  | [] => 0
  | x :: r => uptoBulkEntry x + uptoBulkEntries r
def uptoBulkEntry {H : Type} : Lit × DataW H → Nat
  | (.string bytes, d) => bytes.length + uptoBulk d + 1
  | (_, d) => uptoBulk d + 1
 end
def uptoSmall : (H : Type) → List (DataW H) → Bool := fun _ ds => decide (uptoBulkAll ds ≤ 1048576)
def OpenSpec.upto (s : _root_.Go.ChangeSpec) : _root_.Go.OpenSpec := { _root_.Go.OpenSpec.ofChange s with cond := some uptoSmall }

/-- 'halftonelaw08.ZlibHead', WHERE WHAT IT READS IS OF BULK AT MOST 1048576: true; the input reads as it did. -/
def zlibHeadUptoRow : OpenClaim := { program := "ytdpocnkeokplpaagreat", sum := "345a6fe9ba15a91f19a60585cfbed8507f4535f8aac3bcbe64a3e32ab65d3264", func := "halftone/halftonelaw08.ZlibHead", spec := "zlibHead", unfollowed := true, recurses := true, plainKeys := false, apart := false, narrowed := true }
def ZlibHeadUptoSaid : Prop := zlibHeadUptoRow.holds Tryz.pinned (OpenSpec.upto zlibHeadSpec)

/-- 'halftonelaw08.ZlibBack', WHERE WHAT IT READS IS OF BULK AT MOST 1048576: true; the input reads as it did. -/
def zlibBackUptoRow : OpenClaim := { program := "ytdpocnkeokplpaagreat", sum := "345a6fe9ba15a91f19a60585cfbed8507f4535f8aac3bcbe64a3e32ab65d3264", func := "halftone/halftonelaw08.ZlibBack", spec := "zlibBack", unfollowed := true, recurses := true, plainKeys := false, apart := false, narrowed := true }
def ZlibBackUptoSaid : Prop := zlibBackUptoRow.holds Tryz.pinned (OpenSpec.upto zlibBackSpec)

/-- 'halftonelaw08.ZlibReads', WHERE WHAT IT READS IS OF BULK AT MOST 1048576: true; the input reads as it did. -/
def zlibReadsUptoRow : OpenClaim := { program := "ytdpocnkeokplpaagreat", sum := "345a6fe9ba15a91f19a60585cfbed8507f4535f8aac3bcbe64a3e32ab65d3264", func := "halftone/halftonelaw08.ZlibReads", spec := "zlibReads", unfollowed := true, recurses := true, plainKeys := false, apart := false, narrowed := true }
def ZlibReadsUptoSaid : Prop := zlibReadsUptoRow.holds Tryz.pinned (OpenSpec.upto zlibReadsSpec)

end Rows
end Go.Proofs.YtdpocnkeokplpaaGreat
