/-
  Net: a row of bytes that came in.
-/
import Derived.Test.YtodmhikmjcajnaaNh
import Derived.OpenShut
namespace Go.Proofs.Ytodmhikmjcajnaa
open Go.RowKit

def rowOf (zs : List Int) (len : Nat) : List Int := (List.range len).map fun k => zs.getD k 0
theorem rowOf_length (zs : List Int) (len : Nat) : (rowOf zs len).length = len := by simp [rowOf]
theorem row_bytes {w : World} {a : Option Addr} {len cap : Nat} {zs : List Int}
    (h : (a = none ∧ len = 0 ∧ cap = 0 ∧ zs = []) ∨ ∃ x, a = some x ∧ len ≤ cap ∧ cap ≤ maxLen ∧ zs.length = cap ∧ (∀ i, i < zs.length → w.cell? (x.add i) = some (.int .u8 (zs.getD i 0))) ∧ ∀ n ∈ zs, (Lit.int .u8 n).wf = true) :
    Reads w w.heap.size 1 a len (bytes (rowOf zs len)) ∧ len ≤ 9223372036854775807 := by
  rcases h with ⟨rfl, rfl, rfl, rfl⟩ | ⟨x, rfl, hl, hm, hz, hc, hw⟩
  · exact ⟨Reads.none_, by omega⟩
  · refine ⟨⟨by simp [bytes, rowOf], fun h0 => ⟨x, rfl, ?_, fun j u hu => ?_⟩⟩, by unfold maxLen at hm; omega⟩
    · have := World.block_lt_of_cell? w _ (hc 0 (by omega))
      rwa [block_of_add] at this
    · have hj : j < len := by
        have := (List.getElem?_eq_some_iff.1 hu).1
        simpa [bytes, rowOf] using this
      rw [hc j (by omega), ← hu]
      simp [bytes, rowOf, hj]
end Go.Proofs.Ytodmhikmjcajnaa
