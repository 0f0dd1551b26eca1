/-
  No cell of these rows narrows 'for every input' (looked for: loops, veiled, ifaces, maps, wideKeys, modest, calm, conditions, laid).
  DERIVED. THE GIVEN ROWS OF THIS SEAT. 5 by the template 'for every input the law returns true; each argument reads behind the call as it read before'; 0 by the template 'total and deterministic' (their statements: YtggkndmmbkejgaaTotals.lean).
  GIVEN WITH THE SEED: the statements are not yours to turn. If you find one false, say at which input.
  Laid BY PROGRAM, IN A SANDBOX (cutbox-rows.mjs): the forced cells as the released guide's own fill.sh prints them over the translation 6ff4e2709f622bb9… (all of the seat's roots in one cut). By AI agents, Wed Nov 11 2026. No macro, syntax, notation, axiom, sorry.
-/
import Derived.Test.YtggkndmmbkejgaaChecked
import GoSem.Claim
import GoSem.ClaimJoined
import GoSem.ClaimMapViews
import Derived.JoinedTies
import Derived.KernelRfl
namespace Go.Proofs.Ytggkndmmbkejgaa
/- THE CELL 'sum', in the pinned program and in every row, IS THE sha256 OF THE DUMP (.gsa) THAT YtggkndmmbkejgaaProg.lean LOADS. Nothing in Lean hashes anything: it is a label: what it is worth is what the hold of that sum in a sandbox is worth. -/
noncomputable def Try.pinned : Pinned := { name := "ytggkndmmbkejgaa", sum := "6ff4e2709f622bb99ca5b691e1bff68661cd54ec013eac19cf66ba4b40d3c086", checked := Try.checked }
namespace Rows
def none {H : Type} : Left H := { results := [], args := [] }

/-- 'assayerlaw17.DicePlays': WHATEVER THE INPUT: true; the input reads as it did. -/
def dicePlaysSpec : ChangeSpec := { name := "dicePlays", fn := fun _ => fun
  | [d1, d2, d3] => { results := [.lit (.bool true)], args := [d1, d2, d3] }
  | _ => none }
def dicePlaysRow : OpenClaim := { program := "ytggkndmmbkejgaa", sum := "6ff4e2709f622bb99ca5b691e1bff68661cd54ec013eac19cf66ba4b40d3c086", func := "assayer/assayerlaw17.DicePlays", spec := "dicePlays", apart := false }
def DicePlaysSaid : Prop := dicePlaysRow.holds Try.pinned (OpenSpec.ofChange dicePlaysSpec)

/-- ITS FALSE NEIGHBOUR: 'it returns false'. Refute it at one input. -/
def dicePlaysWrong : ChangeSpec := { name := "dicePlays", fn := fun _ => fun
  | [d1, d2, d3] => { results := [.lit (.bool false)], args := [d1, d2, d3] }
  | _ => none }
def DicePlaysWrongFalsely : Prop := dicePlaysRow.holds Try.pinned (OpenSpec.ofChange dicePlaysWrong)

/-- 'assayerlaw17.DicePicks': WHATEVER THE INPUT: true; the input reads as it did. -/
def dicePicksSpec : ChangeSpec := { name := "dicePicks", fn := fun _ => fun
  | [d1, d2, d3] => { results := [.lit (.bool true)], args := [d1, d2, d3] }
  | _ => none }
def dicePicksRow : OpenClaim := { program := "ytggkndmmbkejgaa", sum := "6ff4e2709f622bb99ca5b691e1bff68661cd54ec013eac19cf66ba4b40d3c086", func := "assayer/assayerlaw17.DicePicks", spec := "dicePicks", apart := false }
def DicePicksSaid : Prop := dicePicksRow.holds Try.pinned (OpenSpec.ofChange dicePicksSpec)

/-- ITS FALSE NEIGHBOUR: 'it returns false'. Refute it at one input. -/
def dicePicksWrong : ChangeSpec := { name := "dicePicks", fn := fun _ => fun
  | [d1, d2, d3] => { results := [.lit (.bool false)], args := [d1, d2, d3] }
  | _ => none }
def DicePicksWrongFalsely : Prop := dicePicksRow.holds Try.pinned (OpenSpec.ofChange dicePicksWrong)

/-- 'assayerlaw17.DiceBelow': WHATEVER THE INPUT: true; the input reads as it did. -/
def diceBelowSpec : ChangeSpec := { name := "diceBelow", fn := fun _ => fun
  | [d1, d2] => { results := [.lit (.bool true)], args := [d1, d2] }
  | _ => none }
def diceBelowRow : OpenClaim := { program := "ytggkndmmbkejgaa", sum := "6ff4e2709f622bb99ca5b691e1bff68661cd54ec013eac19cf66ba4b40d3c086", func := "assayer/assayerlaw17.DiceBelow", spec := "diceBelow", apart := false }
def DiceBelowSaid : Prop := diceBelowRow.holds Try.pinned (OpenSpec.ofChange diceBelowSpec)

/-- ITS FALSE NEIGHBOUR: 'it returns false'. Refute it at one input. -/
def diceBelowWrong : ChangeSpec := { name := "diceBelow", fn := fun _ => fun
  | [d1, d2] => { results := [.lit (.bool false)], args := [d1, d2] }
  | _ => none }
def DiceBelowWrongFalsely : Prop := diceBelowRow.holds Try.pinned (OpenSpec.ofChange diceBelowWrong)

/-- 'assayerlaw17.DiceOther': WHATEVER THE INPUT: true; the input reads as it did. -/
def diceOtherSpec : ChangeSpec := { name := "diceOther", fn := fun _ => fun
  | [d1, d2, d3] => { results := [.lit (.bool true)], args := [d1, d2, d3] }
  | _ => none }
def diceOtherRow : OpenClaim := { program := "ytggkndmmbkejgaa", sum := "6ff4e2709f622bb99ca5b691e1bff68661cd54ec013eac19cf66ba4b40d3c086", func := "assayer/assayerlaw17.DiceOther", spec := "diceOther", apart := false }
def DiceOtherSaid : Prop := diceOtherRow.holds Try.pinned (OpenSpec.ofChange diceOtherSpec)

/-- ITS FALSE NEIGHBOUR: 'it returns false'. Refute it at one input. -/
def diceOtherWrong : ChangeSpec := { name := "diceOther", fn := fun _ => fun
  | [d1, d2, d3] => { results := [.lit (.bool false)], args := [d1, d2, d3] }
  | _ => none }
def DiceOtherWrongFalsely : Prop := diceOtherRow.holds Try.pinned (OpenSpec.ofChange diceOtherWrong)

/-- 'assayerlaw17.DiceAll': WHATEVER THE INPUT: true; the input reads as it did. -/
def diceAllSpec : ChangeSpec := { name := "diceAll", fn := fun _ => fun
  | [d1, d2] => { results := [.lit (.bool true)], args := [d1, d2] }
  | _ => none }
def diceAllRow : OpenClaim := { program := "ytggkndmmbkejgaa", sum := "6ff4e2709f622bb99ca5b691e1bff68661cd54ec013eac19cf66ba4b40d3c086", func := "assayer/assayerlaw17.DiceAll", spec := "diceAll", apart := false }
def DiceAllSaid : Prop := diceAllRow.holds Try.pinned (OpenSpec.ofChange diceAllSpec)

/-- ITS FALSE NEIGHBOUR: 'it returns false'. Refute it at one input. -/
def diceAllWrong : ChangeSpec := { name := "diceAll", fn := fun _ => fun
  | [d1, d2] => { results := [.lit (.bool false)], args := [d1, d2] }
  | _ => none }
def DiceAllWrongFalsely : Prop := diceAllRow.holds Try.pinned (OpenSpec.ofChange diceAllWrong)

/- THE SECOND FORM. 'bulk': how many values and letters a reading holds, each counted each time it is reached (what is shared counts as often as it is met; a slice's spare places count too). A statement '..UptoSaid' is the law's where the arguments, and the package variables that the reading takes, are together of bulk at most 1048576: NARROWER than '..Said'. Prove '..Said' where nothing that the law and all that it calls make is longer than what came in: it says more and counts as full. Else prove '..UptoSaid'. A law counts once. -/
mutual
def uptoBulk {H : Type} : DataW H → Nat
  | .lit (.string bytes) => bytes.length + 1
  | .lit _ => 1
  | .nil => 1
  | .ptr d => uptoBulk d + 1
  | .slice elems spare => uptoBulkAll elems + uptoBulkAll spare + 1
  | .agg parts => uptoBulkAll parts + 1
  | .iface _ d => uptoBulk d + 1
  | .map entries => uptoBulkEntries entries + 1
  | .held _ => 1
def uptoBulkAll {H : Type} : List (DataW H) → Nat
  | [] => 0
  | d :: r => uptoBulk d + uptoBulkAll r
def uptoBulkEntries {H : Type} : List (Lit × DataW H) → Nat
  | [] => 0
  | x :: r => uptoBulkEntry x + uptoBulkEntries r
def uptoBulkEntry {H : Type} : Lit × DataW H → Nat
  | (.string bytes, d) => bytes.length + uptoBulk d + 1
  | (_, d) => uptoBulk d + 1
 end
def uptoSmall : (H : Type) → List (DataW H) → Bool := fun _ ds => decide (uptoBulkAll ds ≤ 1048576)
def OpenSpec.upto (s : _root_.Go.ChangeSpec) : _root_.Go.OpenSpec := { _root_.Go.OpenSpec.ofChange s with cond := some uptoSmall }

/-- 'assayerlaw17.DicePlays', WHERE WHAT IT READS IS OF BULK AT MOST 1048576: true; the input reads as it did. -/
def dicePlaysUptoRow : OpenClaim := { program := "ytggkndmmbkejgaa", sum := "6ff4e2709f622bb99ca5b691e1bff68661cd54ec013eac19cf66ba4b40d3c086", func := "assayer/assayerlaw17.DicePlays", spec := "dicePlays", apart := false, narrowed := true }
def DicePlaysUptoSaid : Prop := dicePlaysUptoRow.holds Try.pinned (OpenSpec.upto dicePlaysSpec)

/-- 'assayerlaw17.DicePicks', WHERE WHAT IT READS IS OF BULK AT MOST 1048576: true; the input reads as it did. -/
def dicePicksUptoRow : OpenClaim := { program := "ytggkndmmbkejgaa", sum := "6ff4e2709f622bb99ca5b691e1bff68661cd54ec013eac19cf66ba4b40d3c086", func := "assayer/assayerlaw17.DicePicks", spec := "dicePicks", apart := false, narrowed := true }
def DicePicksUptoSaid : Prop := dicePicksUptoRow.holds Try.pinned (OpenSpec.upto dicePicksSpec)

/-- 'assayerlaw17.DiceBelow', WHERE WHAT IT READS IS OF BULK AT MOST 1048576: true; the input reads as it did. -/
def diceBelowUptoRow : OpenClaim := { program := "ytggkndmmbkejgaa", sum := "6ff4e2709f622bb99ca5b691e1bff68661cd54ec013eac19cf66ba4b40d3c086", func := "assayer/assayerlaw17.DiceBelow", spec := "diceBelow", apart := false, narrowed := true }
def DiceBelowUptoSaid : Prop := diceBelowUptoRow.holds Try.pinned (OpenSpec.upto diceBelowSpec)

/-- 'assayerlaw17.DiceOther', WHERE WHAT IT READS IS OF BULK AT MOST 1048576: true; the input reads as it did. -/
def diceOtherUptoRow : OpenClaim := { program := "ytggkndmmbkejgaa", sum := "6ff4e2709f622bb99ca5b691e1bff68661cd54ec013eac19cf66ba4b40d3c086", func := "assayer/assayerlaw17.DiceOther", spec := "diceOther", apart := false, narrowed := true }
def DiceOtherUptoSaid : Prop := diceOtherUptoRow.holds Try.pinned (OpenSpec.upto diceOtherSpec)

/-- 'assayerlaw17.DiceAll', WHERE WHAT IT READS IS OF BULK AT MOST 1048576: true; the input reads as it did. -/
def diceAllUptoRow : OpenClaim := { program := "ytggkndmmbkejgaa", sum := "6ff4e2709f622bb99ca5b691e1bff68661cd54ec013eac19cf66ba4b40d3c086", func := "assayer/assayerlaw17.DiceAll", spec := "diceAll", apart := false, narrowed := true }
def DiceAllUptoSaid : Prop := diceAllUptoRow.holds Try.pinned (OpenSpec.upto diceAllSpec)

end Rows
end Go.Proofs.Ytggkndmmbkejgaa
