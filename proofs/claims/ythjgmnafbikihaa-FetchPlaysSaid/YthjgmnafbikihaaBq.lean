/-
  Words for a region that draws its order, whose operations read what lay there, and whose callees read and lay memory of their own: walked once.
-/
import Derived.Below
import Derived.Deep.QuietTactic
import Derived.BigQuiet
set_option linter.unusedVariables false
set_option linter.unusedSimpArgs false
namespace Go.Proofs.Ythjgmnafbikihaa
open Go.RowKit

/-- a world in which all that lay in w lies as it did. -/
structure BelowOf (w : World) where
  w' : World
  h : Below w.heap.size w w'
instance (w : World) : Inhabited (BelowOf w) := ⟨⟨w, Below.refl _ _⟩⟩

theorem wp_region_below {P : Program} {id : Nat} {Q : Exit → Act → World → Prop} {a : Act} {w : World} {l : List Oper} (hm : P.follows .mixedOrders = true) (hB : Region.lexB .any l.toArray = true)
    (h : wpQuiet P l.toArray (fun w' => ∃ p : BelowOf w, w' = p.w') (fun a' => ∀ w', (∃ p : BelowOf w, w' = p.w') → Q .normal a' w') l a) : (Code.region id l.toArray true).wp P Q a w :=
  wp_region_quiet (C := fun w' => ∃ p : BelowOf w, w' = p.w') hm hB ⟨⟨{ w with drawn := w.drawn + 1 }, ⟨rfl, rfl, rfl, Nat.le_refl _, fun _ _ => rfl⟩⟩, rfl⟩ (by simpa using h)

theorem calls_below {P : Program} {f : FuncId} {args : Array Value} {w : World} {p : BelowOf w} {v : Value}
    (h : Calls P f args p.w' fun e w'' => e = .returned v ∧ Below p.w'.heap.size p.w' w'') : Calls P f args p.w' fun e w'' => e = .returned v ∧ ∃ q : BelowOf w, w'' = q.w' :=
  h.mono fun _ w'' ⟨he, hb⟩ => ⟨he, ⟨w'', p.h.trans (hb.mono p.h.size)⟩, rfl⟩
end Go.Proofs.Ythjgmnafbikihaa
