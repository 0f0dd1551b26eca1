/-
  No cell of these rows narrows 'for every input' (looked for: loops, veiled, ifaces, maps, wideKeys, modest, calm, conditions, laid).
  DERIVED. THE GIVEN ROWS OF THIS SEAT. 4 by the template 'for every input the law returns true; each argument reads behind the call as it read before'; 0 by the template 'total and deterministic' (their statements: YtpcppphdbalogaaTotals.lean).
  GIVEN WITH THE SEED: the statements are not yours to turn. If you find one false, say at which input.
  Laid BY PROGRAM, IN A SANDBOX (cutbox-rows.mjs): the forced cells as the released guide's own fill.sh prints them over the translation bb72b4d5a05129e6… (all of the seat's roots in one cut). By AI agents, Wed Nov 11 2026. No macro, syntax, notation, axiom, sorry.
-/
import Derived.Test.YtpcppphdbalogaaChecked
import GoSem.Claim
import GoSem.ClaimJoined
import GoSem.ClaimMapViews
import Derived.JoinedTies
import Derived.KernelRfl
namespace Go.Proofs.Ytpcppphdbalogaa
/- THE CELL 'sum', in the pinned program and in every row, IS THE sha256 OF THE DUMP (.gsa) THAT YtpcppphdbalogaaProg.lean LOADS. Nothing in Lean hashes anything: it is a label: what it is worth is what the hold of that sum in a sandbox is worth. -/
noncomputable def Try.pinned : Pinned := { name := "ytpcppphdbalogaa", sum := "bb72b4d5a05129e6875d5c81f8699da0b45105f72be3a81641b85f9353fc8b02", checked := Try.checked }
namespace Rows
def none {H : Type} : Left H := { results := [], args := [] }

/-- 'assayerlaw21.GossipPlays': WHATEVER THE INPUT: true; the input reads as it did. -/
def gossipPlaysSpec : ChangeSpec := { name := "gossipPlays", fn := fun _ => fun
  | [d1, d2, d3, d4, d5] => { results := [.lit (.bool true)], args := [d1, d2, d3, d4, d5] }
  | _ => none }
def gossipPlaysRow : OpenClaim := { program := "ytpcppphdbalogaa", sum := "bb72b4d5a05129e6875d5c81f8699da0b45105f72be3a81641b85f9353fc8b02", func := "assayer/assayerlaw21.GossipPlays", spec := "gossipPlays", unfollowed := true, recurses := true, plainKeys := false, apart := false }
def GossipPlaysSaid : Prop := gossipPlaysRow.holds Try.pinned (OpenSpec.ofChange gossipPlaysSpec)

/-- ITS FALSE NEIGHBOUR: 'it returns false'. Refute it at one input. -/
def gossipPlaysWrong : ChangeSpec := { name := "gossipPlays", fn := fun _ => fun
  | [d1, d2, d3, d4, d5] => { results := [.lit (.bool false)], args := [d1, d2, d3, d4, d5] }
  | _ => none }
def GossipPlaysWrongFalsely : Prop := gossipPlaysRow.holds Try.pinned (OpenSpec.ofChange gossipPlaysWrong)

/-- 'assayerlaw21.GossipOnce': WHATEVER THE INPUT: true; the input reads as it did. -/
def gossipOnceSpec : ChangeSpec := { name := "gossipOnce", fn := fun _ => fun
  | [d1, d2, d3, d4, d5] => { results := [.lit (.bool true)], args := [d1, d2, d3, d4, d5] }
  | _ => none }
def gossipOnceRow : OpenClaim := { program := "ytpcppphdbalogaa", sum := "bb72b4d5a05129e6875d5c81f8699da0b45105f72be3a81641b85f9353fc8b02", func := "assayer/assayerlaw21.GossipOnce", spec := "gossipOnce", unfollowed := true, recurses := true, plainKeys := false, apart := false }
def GossipOnceSaid : Prop := gossipOnceRow.holds Try.pinned (OpenSpec.ofChange gossipOnceSpec)

/-- ITS FALSE NEIGHBOUR: 'it returns false'. Refute it at one input. -/
def gossipOnceWrong : ChangeSpec := { name := "gossipOnce", fn := fun _ => fun
  | [d1, d2, d3, d4, d5] => { results := [.lit (.bool false)], args := [d1, d2, d3, d4, d5] }
  | _ => none }
def GossipOnceWrongFalsely : Prop := gossipOnceRow.holds Try.pinned (OpenSpec.ofChange gossipOnceWrong)

/-- 'assayerlaw21.GossipRounds': WHATEVER THE INPUT: true; the input reads as it did. -/
def gossipRoundsSpec : ChangeSpec := { name := "gossipRounds", fn := fun _ => fun
  | [d1, d2, d3, d4] => { results := [.lit (.bool true)], args := [d1, d2, d3, d4] }
  | _ => none }
def gossipRoundsRow : OpenClaim := { program := "ytpcppphdbalogaa", sum := "bb72b4d5a05129e6875d5c81f8699da0b45105f72be3a81641b85f9353fc8b02", func := "assayer/assayerlaw21.GossipRounds", spec := "gossipRounds", unfollowed := true, recurses := true, plainKeys := false, apart := false }
def GossipRoundsSaid : Prop := gossipRoundsRow.holds Try.pinned (OpenSpec.ofChange gossipRoundsSpec)

/-- ITS FALSE NEIGHBOUR: 'it returns false'. Refute it at one input. -/
def gossipRoundsWrong : ChangeSpec := { name := "gossipRounds", fn := fun _ => fun
  | [d1, d2, d3, d4] => { results := [.lit (.bool false)], args := [d1, d2, d3, d4] }
  | _ => none }
def GossipRoundsWrongFalsely : Prop := gossipRoundsRow.holds Try.pinned (OpenSpec.ofChange gossipRoundsWrong)

/-- 'assayerlaw21.GossipFloods': WHATEVER THE INPUT: true; the input reads as it did. -/
def gossipFloodsSpec : ChangeSpec := { name := "gossipFloods", fn := fun _ => fun
  | [d1, d2] => { results := [.lit (.bool true)], args := [d1, d2] }
  | _ => none }
def gossipFloodsRow : OpenClaim := { program := "ytpcppphdbalogaa", sum := "bb72b4d5a05129e6875d5c81f8699da0b45105f72be3a81641b85f9353fc8b02", func := "assayer/assayerlaw21.GossipFloods", spec := "gossipFloods", unfollowed := true, recurses := true, plainKeys := false, apart := false }
def GossipFloodsSaid : Prop := gossipFloodsRow.holds Try.pinned (OpenSpec.ofChange gossipFloodsSpec)

/-- ITS FALSE NEIGHBOUR: 'it returns false'. Refute it at one input. -/
def gossipFloodsWrong : ChangeSpec := { name := "gossipFloods", fn := fun _ => fun
  | [d1, d2] => { results := [.lit (.bool false)], args := [d1, d2] }
  | _ => none }
def GossipFloodsWrongFalsely : Prop := gossipFloodsRow.holds Try.pinned (OpenSpec.ofChange gossipFloodsWrong)

/- THE SECOND FORM. 'bulk': how many values and letters a reading holds, each counted each time it is reached (what is shared counts as often as it is met; a slice's spare places count too). A statement '..UptoSaid' is the law's where the arguments, and the package variables that the reading takes, are together of bulk at most 1048576: NARROWER than '..Said'. Prove '..Said' where nothing that the law and all that it calls make is longer than what came in: it says more and counts as full. Else prove '..UptoSaid'. A law counts once. -/
mutual
def uptoBulk {H : Type} : DataW H → Nat
  | .lit (.string bytes) => bytes.length + 1
  | .lit _ => 1
  | .nil => 1
  | .ptr d => uptoBulk d + 1
  | .slice elems spare => uptoBulkAll elems + uptoBulkAll spare + 1
  | .agg parts => uptoBulkAll parts + 1
  | .iface _ d => uptoBulk d + 1
  | .map entries => uptoBulkEntries entries + 1
  | .held _ => 1
def uptoBulkAll {H : Type} : List (DataW H) → Nat
  | [] => 0
  | d :: r => uptoBulk d + uptoBulkAll r
def uptoBulkEntries {H : Type} : List (Lit × DataW H) → Nat
  | [] => 0
  | x :: r => uptoBulkEntry x + uptoBulkEntries r
def uptoBulkEntry {H : Type} : Lit × DataW H → Nat
  | (.string bytes, d) => bytes.length + uptoBulk d + 1
  | (_, d) => uptoBulk d + 1
 end
def uptoSmall : (H : Type) → List (DataW H) → Bool := fun _ ds => decide (uptoBulkAll ds ≤ 1048576)
def OpenSpec.upto (s : _root_.Go.ChangeSpec) : _root_.Go.OpenSpec := { _root_.Go.OpenSpec.ofChange s with cond := some uptoSmall }

/-- 'assayerlaw21.GossipPlays', WHERE WHAT IT READS IS OF BULK AT MOST 1048576: true; the input reads as it did. -/
def gossipPlaysUptoRow : OpenClaim := { program := "ytpcppphdbalogaa", sum := "bb72b4d5a05129e6875d5c81f8699da0b45105f72be3a81641b85f9353fc8b02", func := "assayer/assayerlaw21.GossipPlays", spec := "gossipPlays", unfollowed := true, recurses := true, plainKeys := false, apart := false, narrowed := true }
def GossipPlaysUptoSaid : Prop := gossipPlaysUptoRow.holds Try.pinned (OpenSpec.upto gossipPlaysSpec)

/-- 'assayerlaw21.GossipOnce', WHERE WHAT IT READS IS OF BULK AT MOST 1048576: true; the input reads as it did. -/
def gossipOnceUptoRow : OpenClaim := { program := "ytpcppphdbalogaa", sum := "bb72b4d5a05129e6875d5c81f8699da0b45105f72be3a81641b85f9353fc8b02", func := "assayer/assayerlaw21.GossipOnce", spec := "gossipOnce", unfollowed := true, recurses := true, plainKeys := false, apart := false, narrowed := true }
def GossipOnceUptoSaid : Prop := gossipOnceUptoRow.holds Try.pinned (OpenSpec.upto gossipOnceSpec)

/-- 'assayerlaw21.GossipRounds', WHERE WHAT IT READS IS OF BULK AT MOST 1048576: true; the input reads as it did. -/
def gossipRoundsUptoRow : OpenClaim := { program := "ytpcppphdbalogaa", sum := "bb72b4d5a05129e6875d5c81f8699da0b45105f72be3a81641b85f9353fc8b02", func := "assayer/assayerlaw21.GossipRounds", spec := "gossipRounds", unfollowed := true, recurses := true, plainKeys := false, apart := false, narrowed := true }
def GossipRoundsUptoSaid : Prop := gossipRoundsUptoRow.holds Try.pinned (OpenSpec.upto gossipRoundsSpec)

/-- 'assayerlaw21.GossipFloods', WHERE WHAT IT READS IS OF BULK AT MOST 1048576: true; the input reads as it did. -/
def gossipFloodsUptoRow : OpenClaim := { program := "ytpcppphdbalogaa", sum := "bb72b4d5a05129e6875d5c81f8699da0b45105f72be3a81641b85f9353fc8b02", func := "assayer/assayerlaw21.GossipFloods", spec := "gossipFloods", unfollowed := true, recurses := true, plainKeys := false, apart := false, narrowed := true }
def GossipFloodsUptoSaid : Prop := gossipFloodsUptoRow.holds Try.pinned (OpenSpec.upto gossipFloodsSpec)

end Rows
end Go.Proofs.Ytpcppphdbalogaa
