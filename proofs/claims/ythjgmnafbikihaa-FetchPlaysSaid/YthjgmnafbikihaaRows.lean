/-
  No cell of these rows narrows 'for every input' (looked for: loops, veiled, ifaces, maps, wideKeys, modest, calm, conditions, laid).
  DERIVED. THE GIVEN ROWS OF THIS SEAT. 5 by the template 'for every input the law returns true; each argument reads behind the call as it read before'; 0 by the template 'total and deterministic' (their statements: YthjgmnafbikihaaTotals.lean).
  GIVEN WITH THE SEED: the statements are not yours to turn. If you find one false, say at which input.
  Laid BY PROGRAM, IN A SANDBOX (cutbox-rows.mjs): the forced cells as the released guide's own fill.sh prints them over the translation 614b3a3c563cda09… (all of the seat's roots in one cut). By AI agents, Wed Nov 11 2026. No macro, syntax, notation, axiom, sorry.
-/
import Derived.Test.YthjgmnafbikihaaChecked
import GoSem.Claim
import GoSem.ClaimJoined
import GoSem.ClaimMapViews
import Derived.JoinedTies
import Derived.KernelRfl
namespace Go.Proofs.Ythjgmnafbikihaa
/- THE CELL 'sum', in the pinned program and in every row, IS THE sha256 OF THE DUMP (.gsa) THAT YthjgmnafbikihaaProg.lean LOADS. Nothing in Lean hashes anything: it is a label: what it is worth is what the hold of that sum in a sandbox is worth. -/
noncomputable def Try.pinned : Pinned := { name := "ythjgmnafbikihaa", sum := "614b3a3c563cda0979e82a7473f7f2682fef358a86a7ae5d8824277660ae8a4c", checked := Try.checked }
namespace Rows
def none {H : Type} : Left H := { results := [], args := [] }

/-- 'assayerlaw18.FetchEnds': WHATEVER THE INPUT: true; the input reads as it did. -/
def fetchEndsSpec : ChangeSpec := { name := "fetchEnds", fn := fun _ => fun
  | [d1, d2, d3, d4, d5] => { results := [.lit (.bool true)], args := [d1, d2, d3, d4, d5] }
  | _ => none }
def fetchEndsRow : OpenClaim := { program := "ythjgmnafbikihaa", sum := "614b3a3c563cda0979e82a7473f7f2682fef358a86a7ae5d8824277660ae8a4c", func := "assayer/assayerlaw18.FetchEnds", spec := "fetchEnds", inPlace := ["internal/bytealg.Compare"], unfollowed := true, recurses := true, plainKeys := false, apart := false }
def FetchEndsSaid : Prop := fetchEndsRow.holds Try.pinned (OpenSpec.ofChange fetchEndsSpec)

/-- ITS FALSE NEIGHBOUR: 'it returns false'. Refute it at one input. -/
def fetchEndsWrong : ChangeSpec := { name := "fetchEnds", fn := fun _ => fun
  | [d1, d2, d3, d4, d5] => { results := [.lit (.bool false)], args := [d1, d2, d3, d4, d5] }
  | _ => none }
def FetchEndsWrongFalsely : Prop := fetchEndsRow.holds Try.pinned (OpenSpec.ofChange fetchEndsWrong)

/-- 'assayerlaw18.FetchOrder': WHATEVER THE INPUT: true; the input reads as it did. -/
def fetchOrderSpec : ChangeSpec := { name := "fetchOrder", fn := fun _ => fun
  | [d1, d2] => { results := [.lit (.bool true)], args := [d1, d2] }
  | _ => none }
def fetchOrderRow : OpenClaim := { program := "ythjgmnafbikihaa", sum := "614b3a3c563cda0979e82a7473f7f2682fef358a86a7ae5d8824277660ae8a4c", func := "assayer/assayerlaw18.FetchOrder", spec := "fetchOrder", inPlace := ["internal/bytealg.Compare"], unfollowed := true, recurses := true, plainKeys := false, apart := false }
def FetchOrderSaid : Prop := fetchOrderRow.holds Try.pinned (OpenSpec.ofChange fetchOrderSpec)

/-- ITS FALSE NEIGHBOUR: 'it returns false'. Refute it at one input. -/
def fetchOrderWrong : ChangeSpec := { name := "fetchOrder", fn := fun _ => fun
  | [d1, d2] => { results := [.lit (.bool false)], args := [d1, d2] }
  | _ => none }
def FetchOrderWrongFalsely : Prop := fetchOrderRow.holds Try.pinned (OpenSpec.ofChange fetchOrderWrong)

/-- 'assayerlaw18.FetchWaits': WHATEVER THE INPUT: true; the input reads as it did. -/
def fetchWaitsSpec : ChangeSpec := { name := "fetchWaits", fn := fun _ => fun
  | [d1, d2] => { results := [.lit (.bool true)], args := [d1, d2] }
  | _ => none }
def fetchWaitsRow : OpenClaim := { program := "ythjgmnafbikihaa", sum := "614b3a3c563cda0979e82a7473f7f2682fef358a86a7ae5d8824277660ae8a4c", func := "assayer/assayerlaw18.FetchWaits", spec := "fetchWaits", inPlace := ["internal/bytealg.Compare"], unfollowed := true, recurses := true, plainKeys := false, apart := false }
def FetchWaitsSaid : Prop := fetchWaitsRow.holds Try.pinned (OpenSpec.ofChange fetchWaitsSpec)

/-- ITS FALSE NEIGHBOUR: 'it returns false'. Refute it at one input. -/
def fetchWaitsWrong : ChangeSpec := { name := "fetchWaits", fn := fun _ => fun
  | [d1, d2] => { results := [.lit (.bool false)], args := [d1, d2] }
  | _ => none }
def FetchWaitsWrongFalsely : Prop := fetchWaitsRow.holds Try.pinned (OpenSpec.ofChange fetchWaitsWrong)

/-- 'assayerlaw18.FetchPlays': WHATEVER THE INPUT: true; the input reads as it did. -/
def fetchPlaysSpec : ChangeSpec := { name := "fetchPlays", fn := fun _ => fun
  | [d1, d2, d3, d4, d5] => { results := [.lit (.bool true)], args := [d1, d2, d3, d4, d5] }
  | _ => none }
def fetchPlaysRow : OpenClaim := { program := "ythjgmnafbikihaa", sum := "614b3a3c563cda0979e82a7473f7f2682fef358a86a7ae5d8824277660ae8a4c", func := "assayer/assayerlaw18.FetchPlays", spec := "fetchPlays", inPlace := ["internal/bytealg.Compare"], unfollowed := true, recurses := true, plainKeys := false, apart := false }
def FetchPlaysSaid : Prop := fetchPlaysRow.holds Try.pinned (OpenSpec.ofChange fetchPlaysSpec)

/-- ITS FALSE NEIGHBOUR: 'it returns false'. Refute it at one input. -/
def fetchPlaysWrong : ChangeSpec := { name := "fetchPlays", fn := fun _ => fun
  | [d1, d2, d3, d4, d5] => { results := [.lit (.bool false)], args := [d1, d2, d3, d4, d5] }
  | _ => none }
def FetchPlaysWrongFalsely : Prop := fetchPlaysRow.holds Try.pinned (OpenSpec.ofChange fetchPlaysWrong)

/-- 'assayerlaw18.FetchDone': WHATEVER THE INPUT: true; the input reads as it did. -/
def fetchDoneSpec : ChangeSpec := { name := "fetchDone", fn := fun _ => fun
  | [d1, d2, d3, d4] => { results := [.lit (.bool true)], args := [d1, d2, d3, d4] }
  | _ => none }
def fetchDoneRow : OpenClaim := { program := "ythjgmnafbikihaa", sum := "614b3a3c563cda0979e82a7473f7f2682fef358a86a7ae5d8824277660ae8a4c", func := "assayer/assayerlaw18.FetchDone", spec := "fetchDone", inPlace := ["internal/bytealg.Compare"], unfollowed := true, recurses := true, plainKeys := false, apart := false }
def FetchDoneSaid : Prop := fetchDoneRow.holds Try.pinned (OpenSpec.ofChange fetchDoneSpec)

/-- ITS FALSE NEIGHBOUR: 'it returns false'. Refute it at one input. -/
def fetchDoneWrong : ChangeSpec := { name := "fetchDone", fn := fun _ => fun
  | [d1, d2, d3, d4] => { results := [.lit (.bool false)], args := [d1, d2, d3, d4] }
  | _ => none }
def FetchDoneWrongFalsely : Prop := fetchDoneRow.holds Try.pinned (OpenSpec.ofChange fetchDoneWrong)

/- THE SECOND FORM. 'bulk': how many values and letters a reading holds, each counted each time it is reached (what is shared counts as often as it is met; a slice's spare places count too). A statement '..UptoSaid' is the law's where the arguments, and the package variables that the reading takes, are together of bulk at most 1048576: NARROWER than '..Said'. Prove '..Said' where nothing that the law and all that it calls make is longer than what came in: it says more and counts as full. Else prove '..UptoSaid'. A law counts once. -/
mutual
def uptoBulk {H : Type} : DataW H → Nat
  | .lit (.string bytes) => bytes.length + 1
  | .lit _ => 1
  | .nil => 1
  | .ptr d => uptoBulk d + 1
  | .slice elems spare => uptoBulkAll elems + uptoBulkAll spare + 1
  | .agg parts => uptoBulkAll parts + 1
  | .iface _ d => uptoBulk d + 1
  | .map entries => uptoBulkEntries entries + 1
  | .held _ => 1
def uptoBulkAll {H : Type} : List (DataW H) → Nat
  | [] => 0
  | d :: r => uptoBulk d + uptoBulkAll r
def uptoBulkEntries {H : Type} : List (Lit × DataW H) → Nat
  | [] => 0
  | x :: r => uptoBulkEntry x + uptoBulkEntries r
def uptoBulkEntry {H : Type} : Lit × DataW H → Nat
  | (.string bytes, d) => bytes.length + uptoBulk d + 1
  | (_, d) => uptoBulk d + 1
 end
def uptoSmall : (H : Type) → List (DataW H) → Bool := fun _ ds => decide (uptoBulkAll ds ≤ 1048576)
def OpenSpec.upto (s : _root_.Go.ChangeSpec) : _root_.Go.OpenSpec := { _root_.Go.OpenSpec.ofChange s with cond := some uptoSmall }

/-- 'assayerlaw18.FetchEnds', WHERE WHAT IT READS IS OF BULK AT MOST 1048576: true; the input reads as it did. -/
def fetchEndsUptoRow : OpenClaim := { program := "ythjgmnafbikihaa", sum := "614b3a3c563cda0979e82a7473f7f2682fef358a86a7ae5d8824277660ae8a4c", func := "assayer/assayerlaw18.FetchEnds", spec := "fetchEnds", inPlace := ["internal/bytealg.Compare"], unfollowed := true, recurses := true, plainKeys := false, apart := false, narrowed := true }
def FetchEndsUptoSaid : Prop := fetchEndsUptoRow.holds Try.pinned (OpenSpec.upto fetchEndsSpec)

/-- 'assayerlaw18.FetchOrder', WHERE WHAT IT READS IS OF BULK AT MOST 1048576: true; the input reads as it did. -/
def fetchOrderUptoRow : OpenClaim := { program := "ythjgmnafbikihaa", sum := "614b3a3c563cda0979e82a7473f7f2682fef358a86a7ae5d8824277660ae8a4c", func := "assayer/assayerlaw18.FetchOrder", spec := "fetchOrder", inPlace := ["internal/bytealg.Compare"], unfollowed := true, recurses := true, plainKeys := false, apart := false, narrowed := true }
def FetchOrderUptoSaid : Prop := fetchOrderUptoRow.holds Try.pinned (OpenSpec.upto fetchOrderSpec)

/-- 'assayerlaw18.FetchWaits', WHERE WHAT IT READS IS OF BULK AT MOST 1048576: true; the input reads as it did. -/
def fetchWaitsUptoRow : OpenClaim := { program := "ythjgmnafbikihaa", sum := "614b3a3c563cda0979e82a7473f7f2682fef358a86a7ae5d8824277660ae8a4c", func := "assayer/assayerlaw18.FetchWaits", spec := "fetchWaits", inPlace := ["internal/bytealg.Compare"], unfollowed := true, recurses := true, plainKeys := false, apart := false, narrowed := true }
def FetchWaitsUptoSaid : Prop := fetchWaitsUptoRow.holds Try.pinned (OpenSpec.upto fetchWaitsSpec)

/-- 'assayerlaw18.FetchPlays', WHERE WHAT IT READS IS OF BULK AT MOST 1048576: true; the input reads as it did. -/
def fetchPlaysUptoRow : OpenClaim := { program := "ythjgmnafbikihaa", sum := "614b3a3c563cda0979e82a7473f7f2682fef358a86a7ae5d8824277660ae8a4c", func := "assayer/assayerlaw18.FetchPlays", spec := "fetchPlays", inPlace := ["internal/bytealg.Compare"], unfollowed := true, recurses := true, plainKeys := false, apart := false, narrowed := true }
def FetchPlaysUptoSaid : Prop := fetchPlaysUptoRow.holds Try.pinned (OpenSpec.upto fetchPlaysSpec)

/-- 'assayerlaw18.FetchDone', WHERE WHAT IT READS IS OF BULK AT MOST 1048576: true; the input reads as it did. -/
def fetchDoneUptoRow : OpenClaim := { program := "ythjgmnafbikihaa", sum := "614b3a3c563cda0979e82a7473f7f2682fef358a86a7ae5d8824277660ae8a4c", func := "assayer/assayerlaw18.FetchDone", spec := "fetchDone", inPlace := ["internal/bytealg.Compare"], unfollowed := true, recurses := true, plainKeys := false, apart := false, narrowed := true }
def FetchDoneUptoSaid : Prop := fetchDoneUptoRow.holds Try.pinned (OpenSpec.upto fetchDoneSpec)

end Rows
end Go.Proofs.Ythjgmnafbikihaa
