/-
  No cell of these rows narrows 'for every input' (looked for: loops, veiled, ifaces, maps, wideKeys, modest, calm, conditions, laid).
  DERIVED. THE GIVEN ROWS OF THIS SEAT. 4 by the template 'for every input the law returns true; each argument reads behind the call as it read before'; 0 by the template 'total and deterministic' (their statements: YtodmhikmjcajnaaTotals.lean).
  GIVEN WITH THE SEED: the statements are not yours to turn. If you find one false, say at which input.
  Laid BY PROGRAM, IN A SANDBOX (cutbox-rows.mjs): the forced cells as the released guide's own fill.sh prints them over the translation 505a21b8f24cddf0… (all of the seat's roots in one cut). By AI agents, Wed Nov 11 2026. No macro, syntax, notation, axiom, sorry.
-/
import Derived.Test.YtodmhikmjcajnaaChecked
import GoSem.Claim
import GoSem.ClaimJoined
import GoSem.ClaimMapViews
import Derived.JoinedTies
import Derived.KernelRfl
namespace Go.Proofs.Ytodmhikmjcajnaa
/- THE CELL 'sum', in the pinned program and in every row, IS THE sha256 OF THE DUMP (.gsa) THAT YtodmhikmjcajnaaProg.lean LOADS. Nothing in Lean hashes anything: it is a label: what it is worth is what the hold of that sum in a sandbox is worth. -/
noncomputable def Try.pinned : Pinned := { name := "ytodmhikmjcajnaa", sum := "505a21b8f24cddf04884788eb135612f079f3e8687bdaa513b2f9df8fb3da414", checked := Try.checked }
namespace Rows
def none {H : Type} : Left H := { results := [], args := [] }

/-- 'assayerlaw23.NetOrder': WHATEVER THE INPUT: true; the input reads as it did. -/
def netOrderSpec : ChangeSpec := { name := "netOrder", fn := fun _ => fun
  | [d1, d2, d3] => { results := [.lit (.bool true)], args := [d1, d2, d3] }
  | _ => none }
def netOrderRow : OpenClaim := { program := "ytodmhikmjcajnaa", sum := "505a21b8f24cddf04884788eb135612f079f3e8687bdaa513b2f9df8fb3da414", func := "assayer/assayerlaw23.NetOrder", spec := "netOrder", unfollowed := true, recurses := true, apart := false }
def NetOrderSaid : Prop := netOrderRow.holds Try.pinned (OpenSpec.ofChange netOrderSpec)

/-- ITS FALSE NEIGHBOUR: 'it returns false'. Refute it at one input. -/
def netOrderWrong : ChangeSpec := { name := "netOrder", fn := fun _ => fun
  | [d1, d2, d3] => { results := [.lit (.bool false)], args := [d1, d2, d3] }
  | _ => none }
def NetOrderWrongFalsely : Prop := netOrderRow.holds Try.pinned (OpenSpec.ofChange netOrderWrong)

/-- 'assayerlaw23.NetCopies': WHATEVER THE INPUT: true; the input reads as it did. -/
def netCopiesSpec : ChangeSpec := { name := "netCopies", fn := fun _ => fun
  | [d1, d2] => { results := [.lit (.bool true)], args := [d1, d2] }
  | _ => none }
def netCopiesRow : OpenClaim := { program := "ytodmhikmjcajnaa", sum := "505a21b8f24cddf04884788eb135612f079f3e8687bdaa513b2f9df8fb3da414", func := "assayer/assayerlaw23.NetCopies", spec := "netCopies", unfollowed := true, recurses := true, apart := false }
def NetCopiesSaid : Prop := netCopiesRow.holds Try.pinned (OpenSpec.ofChange netCopiesSpec)

/-- ITS FALSE NEIGHBOUR: 'it returns false'. Refute it at one input. -/
def netCopiesWrong : ChangeSpec := { name := "netCopies", fn := fun _ => fun
  | [d1, d2] => { results := [.lit (.bool false)], args := [d1, d2] }
  | _ => none }
def NetCopiesWrongFalsely : Prop := netCopiesRow.holds Try.pinned (OpenSpec.ofChange netCopiesWrong)

/-- 'assayerlaw23.NetNodes': WHATEVER THE INPUT: true; the input reads as it did. -/
def netNodesSpec : ChangeSpec := { name := "netNodes", fn := fun _ => fun
  | [d1, d2, d3] => { results := [.lit (.bool true)], args := [d1, d2, d3] }
  | _ => none }
def netNodesRow : OpenClaim := { program := "ytodmhikmjcajnaa", sum := "505a21b8f24cddf04884788eb135612f079f3e8687bdaa513b2f9df8fb3da414", func := "assayer/assayerlaw23.NetNodes", spec := "netNodes", unfollowed := true, recurses := true, apart := false }
def NetNodesSaid : Prop := netNodesRow.holds Try.pinned (OpenSpec.ofChange netNodesSpec)

/-- ITS FALSE NEIGHBOUR: 'it returns false'. Refute it at one input. -/
def netNodesWrong : ChangeSpec := { name := "netNodes", fn := fun _ => fun
  | [d1, d2, d3] => { results := [.lit (.bool false)], args := [d1, d2, d3] }
  | _ => none }
def NetNodesWrongFalsely : Prop := netNodesRow.holds Try.pinned (OpenSpec.ofChange netNodesWrong)

/-- 'assayerlaw23.NetFull': WHATEVER THE INPUT: true; the input reads as it did. -/
def netFullSpec : ChangeSpec := { name := "netFull", fn := fun _ => fun
  | [d1, d2] => { results := [.lit (.bool true)], args := [d1, d2] }
  | _ => none }
def netFullRow : OpenClaim := { program := "ytodmhikmjcajnaa", sum := "505a21b8f24cddf04884788eb135612f079f3e8687bdaa513b2f9df8fb3da414", func := "assayer/assayerlaw23.NetFull", spec := "netFull", unfollowed := true, recurses := true, apart := false }
def NetFullSaid : Prop := netFullRow.holds Try.pinned (OpenSpec.ofChange netFullSpec)

/-- ITS FALSE NEIGHBOUR: 'it returns false'. Refute it at one input. -/
def netFullWrong : ChangeSpec := { name := "netFull", fn := fun _ => fun
  | [d1, d2] => { results := [.lit (.bool false)], args := [d1, d2] }
  | _ => none }
def NetFullWrongFalsely : Prop := netFullRow.holds Try.pinned (OpenSpec.ofChange netFullWrong)

/- THE SECOND FORM. 'bulk': how many values and letters a reading holds, each counted each time it is reached (what is shared counts as often as it is met; a slice's spare places count too). A statement '..UptoSaid' is the law's where the arguments, and the package variables that the reading takes, are together of bulk at most 1048576: NARROWER than '..Said'. Prove '..Said' where nothing that the law and all that it calls make is longer than what came in: it says more and counts as full. Else prove '..UptoSaid'. A law counts once. -/
mutual
def uptoBulk {H : Type} : DataW H → Nat
  | .lit (.string bytes) => bytes.length + 1
  | .lit _ => 1
  | .nil => 1
  | .ptr d => uptoBulk d + 1
  | .slice elems spare => uptoBulkAll elems + uptoBulkAll spare + 1
  | .agg parts => uptoBulkAll parts + 1
  | .iface _ d => uptoBulk d + 1
  | .map entries => uptoBulkEntries entries + 1
  | .held _ => 1
def uptoBulkAll {H : Type} : List (DataW H) → Nat
  | [] => 0
  | d :: r => uptoBulk d + uptoBulkAll r
def uptoBulkEntries {H : Type} : List (Lit × DataW H) → Nat
  | [] => 0
  | x :: r => uptoBulkEntry x + uptoBulkEntries r
def uptoBulkEntry {H : Type} : Lit × DataW H → Nat
  | (.string bytes, d) => bytes.length + uptoBulk d + 1
  | (_, d) => uptoBulk d + 1
 end
def uptoSmall : (H : Type) → List (DataW H) → Bool := fun _ ds => decide (uptoBulkAll ds ≤ 1048576)
def OpenSpec.upto (s : _root_.Go.ChangeSpec) : _root_.Go.OpenSpec := { _root_.Go.OpenSpec.ofChange s with cond := some uptoSmall }

/-- 'assayerlaw23.NetOrder', WHERE WHAT IT READS IS OF BULK AT MOST 1048576: true; the input reads as it did. -/
def netOrderUptoRow : OpenClaim := { program := "ytodmhikmjcajnaa", sum := "505a21b8f24cddf04884788eb135612f079f3e8687bdaa513b2f9df8fb3da414", func := "assayer/assayerlaw23.NetOrder", spec := "netOrder", unfollowed := true, recurses := true, apart := false, narrowed := true }
def NetOrderUptoSaid : Prop := netOrderUptoRow.holds Try.pinned (OpenSpec.upto netOrderSpec)

/-- 'assayerlaw23.NetCopies', WHERE WHAT IT READS IS OF BULK AT MOST 1048576: true; the input reads as it did. -/
def netCopiesUptoRow : OpenClaim := { program := "ytodmhikmjcajnaa", sum := "505a21b8f24cddf04884788eb135612f079f3e8687bdaa513b2f9df8fb3da414", func := "assayer/assayerlaw23.NetCopies", spec := "netCopies", unfollowed := true, recurses := true, apart := false, narrowed := true }
def NetCopiesUptoSaid : Prop := netCopiesUptoRow.holds Try.pinned (OpenSpec.upto netCopiesSpec)

/-- 'assayerlaw23.NetNodes', WHERE WHAT IT READS IS OF BULK AT MOST 1048576: true; the input reads as it did. -/
def netNodesUptoRow : OpenClaim := { program := "ytodmhikmjcajnaa", sum := "505a21b8f24cddf04884788eb135612f079f3e8687bdaa513b2f9df8fb3da414", func := "assayer/assayerlaw23.NetNodes", spec := "netNodes", unfollowed := true, recurses := true, apart := false, narrowed := true }
def NetNodesUptoSaid : Prop := netNodesUptoRow.holds Try.pinned (OpenSpec.upto netNodesSpec)

/-- 'assayerlaw23.NetFull', WHERE WHAT IT READS IS OF BULK AT MOST 1048576: true; the input reads as it did. -/
def netFullUptoRow : OpenClaim := { program := "ytodmhikmjcajnaa", sum := "505a21b8f24cddf04884788eb135612f079f3e8687bdaa513b2f9df8fb3da414", func := "assayer/assayerlaw23.NetFull", spec := "netFull", unfollowed := true, recurses := true, apart := false, narrowed := true }
def NetFullUptoSaid : Prop := netFullUptoRow.holds Try.pinned (OpenSpec.upto netFullSpec)

end Rows
end Go.Proofs.Ytodmhikmjcajnaa
