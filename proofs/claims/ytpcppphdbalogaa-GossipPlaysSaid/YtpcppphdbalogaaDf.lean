/-
  Dice beside other blocks.
-/
import Derived.Test.YtpcppphdbalogaaDe
namespace Go.Proofs.Ytpcppphdbalogaa
open Go.RowKit Go.Sort

theorem below_dN {B : Nat} {a w : World} (h : Below B a w) (n : Nat) : Below B a (w.drewN n) := ⟨h.os, h.tape, h.output, h.size, h.block⟩
theorem die_new (w : World) (s : Int) : Die (w.alloc (.cells #[.int .u64 s] 65)) w.heap.size s :=
  ⟨(Blk.new w 65 #[.int .u64 s]).cell 0, (Blk.new w 65 #[.int .u64 s]).frozen 0⟩
theorem die_alloc {w : World} {b : Nat} {s : Int} (h : Die w b s) (o : Obj) : Die (w.alloc o) b s := die_block h (Below.heap_alloc w o b (die_lt h))
theorem isl_own {w : World} {base n c : Nat} {A : Option Addr} {zs : List Int} (h : w.ownsRow base 3 1 (.slice A n c) n (ints zs)) (hn : n * 8 ≤ 140737488355328) : IsL w A n zs :=
  ⟨by have := h.1; simp [ints] at this; exact this, hn, Reads.of_own h⟩
theorem isl_three (w : World) (x y z : Int) : IsL (w.alloc (.cells #[.int .i64 x, .int .i64 y, .int .i64 z] 3)) (some ⟨w.heap.size, 0, none⟩) 3 [x, y, z] :=
  isl_own (base := w.heap.size) (c := 3) (World.ownsRow_lit w _ 3 (Nat.le_refl _) (by unfold maxLen; omega) rfl) (by omega)
theorem below_of_grown {w0 w w' : World} {b : Nat} (h : Below w0.heap.size w0 w) (g : w.grownBy w' (some b)) (hb : w0.heap.size ≤ b) : Below w0.heap.size w0 w' :=
  h.grown g h.size (fun k e => by injection e with e; omega)
theorem own3 {w : World} {base g c : Nat} {x y z : Int} (h : w.ownsRow base 3 1 (.slice (some ⟨g, 0, none⟩) 3 c) 3 (ints [x, y, z])) :
    w.cell? ⟨g, 0, none⟩ = some (.int .i64 x) ∧ w.cell? ⟨g, 1, none⟩ = some (.int .i64 y) ∧ w.cell? ⟨g, 2, none⟩ = some (.int .i64 z) :=
  ⟨(h.cellAt 0 (by omega)).trans rfl, (h.cellAt 1 (by omega)).trans rfl, (h.cellAt 2 (by omega)).trans rfl⟩
end Go.Proofs.Ytpcppphdbalogaa
