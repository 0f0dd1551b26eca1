/-
  Dice: the document's example holds.
-/
import Derived.Test.YtggkndmmbkejgaaDe
namespace Go.Proofs.Ytggkndmmbkejgaa
open Go.RowKit Go.Sort

theorem vl_zero : vl 0 = 16294208416658607535 := by decide +kernel
theorem awake_pick : ∃ x y z : Int, (Dp.pick nx vl (nx 0) [4, 5, 6] 9).2 = [x, y, z] ∧ x + y + z = 15 ∧ 0 ≤ x ∧ x ≤ 6 ∧ 0 ≤ y ∧ y ≤ 6 ∧ 0 ≤ z ∧ z ≤ 6 := by
  have h : (Dp.pick nx vl (nx 0) [4, 5, 6] 9).2 = [4, 6, 5] := by decide +kernel
  exact ⟨_, _, _, h, by decide⟩
theorem below_dN {B : Nat} {a w : World} (h : Below B a w) (n : Nat) : Below B a (w.drewN n) := ⟨h.os, h.tape, h.output, h.size, h.block⟩
theorem die_new (w : World) (s : Int) : Die (w.alloc (.cells #[.int .u64 s] 43)) w.heap.size s :=
  ⟨(Blk.new w 43 #[.int .u64 s]).cell 0, (Blk.new w 43 #[.int .u64 s]).frozen 0⟩
theorem die_alloc {w : World} {b : Nat} {s : Int} (h : Die w b s) (o : Obj) : Die (w.alloc o) b s := die_block h (Below.heap_alloc w o b (die_lt h))
theorem isl_own {w : World} {base n c : Nat} {A : Option Addr} {zs : List Int} (h : w.ownsRow base 3 1 (.slice A n c) n (ints zs)) (hn : n * 8 ≤ 140737488355328) : IsL w A n zs :=
  ⟨by have := h.1; simp [ints] at this; exact this, hn, Reads.of_own h⟩
theorem isl_three (w : World) (x y z : Int) : IsL (w.alloc (.cells #[.int .i64 x, .int .i64 y, .int .i64 z] 3)) (some ⟨w.heap.size, 0, none⟩) 3 [x, y, z] :=
  isl_own (base := w.heap.size) (c := 3) (World.ownsRow_lit w _ 3 (Nat.le_refl _) (by unfold maxLen; omega) rfl) (by omega)
theorem below_of_grown {w0 w w' : World} {b : Nat} (h : Below w0.heap.size w0 w) (g : w.grownBy w' (some b)) (hb : w0.heap.size ≤ b) : Below w0.heap.size w0 w' :=
  h.grown g h.size (fun k e => by injection e with e; omega)
theorem own3 {w : World} {base g c : Nat} {x y z : Int} (h : w.ownsRow base 3 1 (.slice (some ⟨g, 0, none⟩) 3 c) 3 (ints [x, y, z])) :
    w.cell? ⟨g, 0, none⟩ = some (.int .i64 x) ∧ w.cell? ⟨g, 1, none⟩ = some (.int .i64 y) ∧ w.cell? ⟨g, 2, none⟩ = some (.int .i64 z) :=
  ⟨(h.cellAt 0 (by omega)).trans rfl, (h.cellAt 1 (by omega)).trans rfl, (h.cellAt 2 (by omega)).trans rfl⟩

theorem awake_any (w : World) : Calls Try.prog 8 #[] w fun e w' => e = .returned (.bool true) ∧ Below w.heap.size w w' := by
  have hv := Lib.hid vl_zero
  have hW2 : Die (w.alloc (.cells #[.int .u64 0] 43)) w.heap.size 0 := die_new w 0
  have H1 := Lib.hid (next_any w.heap.size 0 _ hW2.1 hW2.2)
  clear hW2
  obtain ⟨x, y, z, hp, hsum, hx0, hx6, hy0, hy6, hz0, hz6⟩ := awake_pick
  have HP := Lib.hid hp
  have HS := Lib.hid hsum
  clear hp hsum
  go_enter Try.func8, Try.ntmps8
  go_wp2_with (first | (go_at_call 9; go_must (refine (new_any 0 _).mono ?_); rintro e w' ⟨rfl, rfl⟩) | (go_at_call 11; go_must (refine H1.out.mono ?_); rintro e w' ⟨rfl, rfl⟩))
  refine (pick_any w.heap.size (nx 0) 9 _ 3 3 [4, 5, 6] _ (die_alloc (die_new w (nx 0)) _) (by simpa using isl_three (w.alloc (.cells #[.int .u64 (nx 0)] 43)) 4 5 6)).mono ?_
  rintro e w3 ⟨v, rfl, ho, hd, hg⟩
  rw [HP.out] at ho
  have hw3 : Dp.want [4, 5, 6] 9 = 3 := rfl
  rw [hw3] at ho
  obtain ⟨g, c, rfl⟩ := own_form ho (by omega)
  obtain ⟨c0, c1, c2⟩ := own3 ho
  have hB := Lib.hid (below_of_grown (((Below.refl _ w).alloc (Nat.le_refl _) (.cells #[.int .u64 (nx 0)] 43)).alloc (by simp) (.cells #[.int .i64 4, .int .i64 5, .int .i64 6] 3)) hg (Nat.le_refl _))
  clear ho hd hg hw3
  have hs : (x + y + z == 15) = true := by have := HS.out; simpa using this
  rw [hv.out]
  go_wp2
  go_quiet ((go_at_call 13; exact Calls.quiet_of_same (bel_lo _ _ (by omega) _)))
  go_wp2
  go_ret
  exact ⟨rfl, below_dN hB.out _⟩
end Go.Proofs.Ytggkndmmbkejgaa
