/-
  Fetch, the document's answer: a row of wants that grows; a table's four cells.
-/
import Derived.Test.YthjgmnafbikihaaRf
set_option linter.unusedVariables false
set_option linter.unusedSimpArgs false
namespace Go.Proofs.Ythjgmnafbikihaa
open Go.RowKit Go.Maps Go.Sort

structure QR (W0 w : World) (v : Value) (L : En) : Prop where
  own : w.ownsRow W0.heap.size 78 68 v L.length (qrow L)
  below : Below W0.heap.size W0 w
section
variable {W0 w w' : World} {v v' : Value} {L : En} {p : WS × St}
theorem QR.nil (W0 w : World) (h : Below W0.heap.size W0 w) : QR W0 w (.slice none 0 0) [] := ⟨World.ownsRow_nil _ _ _ _, h⟩
theorem QR.below_ (h : QR W0 w v L) (hB : Below w.heap.size w w') : QR W0 w' v L :=
  ⟨h.own.kept (grown_below hB none) (own_ne fun k e => by cases e), h.below.trans (hB.mono h.below.size)⟩
theorem QR.push (h : QR W0 w v L) (hown : w'.ownsRow W0.heap.size 78 68 v' (L.length + 1) (qrow L ++ encQ p)) (hg : (w.alloc (.cells (encQ p).toArray 78)).grownBy w' v.ownBlock) : QR W0 w' v' (L ++ [p]) := by
  refine ⟨by rw [qrow_snoc]; simpa using hown, ?_⟩
  exact (h.below.alloc h.below.size _).grown hg (by have := h.below.size; simp; omega) (fun k e => (h.own.lt k e).1)
theorem reads_q (w : World) (p : WS × St) : Reads (w.alloc (.cells (encQ p).toArray 78)) (w.heap.size + 1) 68 (some ⟨w.heap.size, 0, none⟩) 1 (encQ p) :=
  ⟨by simpa using encQ_length p, fun _ => ⟨_, rfl, by simp, fun j u hu => by
    have := (Blk.new w 78 (encQ p).toArray).cell j
    rw [Addr.add_mid, Nat.zero_add, this]
    simpa using hu⟩⟩
theorem wpList_push {ops : Array Oper} {rest : List Oper} {o1 o2 : Oper} {a : Act} {Q : Exit → Act → World → Prop} (x s : Operand) (t1 : Tmp) (g1 : o1.guard = none) (h1 : o1.op = .buildSlice 46 1 #[(0, x)]) (d1 : o1.dst = some t1)
    (g2 : o2.guard = none) (h2 : o2.op = .call { callee := .builtin .append, args := #[s, .tmp t1], argTypes := #[46, 46] }) (il : List Value) (hil : encQ p = il) (hx : a.eval x = .agg il.toArray)
    (hs : (a.put (some t1) (.slice (some ⟨w.heap.size, 0, none⟩) 1 1)).eval s = v) (hsl : (a.put (some t1) (.slice (some ⟨w.heap.size, 0, none⟩) 1 1)).eval (.tmp t1) = .slice (some ⟨w.heap.size, 0, none⟩) 1 1)
    (hq : QR W0 w v L) (hL : L.length ≤ 1000000) (h : ∀ v9 w9, QR W0 w9 v9 (L ++ [p]) → wpList Try.prog ops Q rest ((a.put (some t1) (.slice (some ⟨w.heap.size, 0, none⟩) 1 1)).put o2.dst v9) w9) : wpList Try.prog ops Q (o1 :: o2 :: rest) a w := by
  obtain ⟨i0, z0, hi, hz0, hzc, hz1, hz2⟩ := parts78
  have hl := encQ_length p
  have hone := encQ_ones p
  have hr := reads_q w p
  subst hil
  have hs68 : (encQ p).toArray.size = 68 := by simpa using hl
  refine wpList_slice_one 46 78 x (encQ p).toArray i0 z0 g1 h1 hx Try.underlying46 hi hz0 (by rw [hz1, hs68]) (by rw [hzc, hs68]) (by rw [hs68]; decide) (by rw [hs68]; decide) ?_
  rw [d1]
  refine wpList_append_any _ g2 s (.tmp t1) 46 h2 W0.heap.size 78 i0 z0 68 96 Try.underlying46 hi hz0 hz1 hz2 hzc (by decide) v L.length (qrow L) hs (hq.own.alloc _) (w.heap.size + 1) (some ⟨w.heap.size, 0, none⟩) 1 1 (encQ p) hsl hr hone (by unfold maxLen; omega) (by omega) (by have := hq.below.size; simp; omega) ?_
  intro v9 w9 hown hg _
  exact h v9 w9 (hq.push hown hg)
end

/-! the table -/
def tcells (base most budget : Int) (v : Value) : Array Value := #[.int .i64 base, .int .i64 most, .int .i64 budget, v]
theorem size48 (base most budget : Int) (v : Value) : (Try.prog.info? 48).map (·.size) = some (tcells base most budget v).size := by
  have h : (Try.prog.info? 48).map (·.size) = some 4 := by kernel_rfl
  rw [h]; rfl
theorem tcells_ones (base most budget : Int) (A : Option Addr) (n c : Nat) : ∀ v ∈ (tcells base most budget (.slice A n c)).toList, v.oneCell' = true := by
  intro v hv
  simp only [tcells, List.mem_cons, List.not_mem_nil, or_false] at hv
  rcases hv with rfl | rfl | rfl | rfl <;> rfl
theorem tset {w : World} {g : Nat} {base most budget : Int} {v v' : Value} (h : Blk w g 48 (tcells base most budget v)) : Blk (w.setCell ⟨g, 3, none⟩ v') g 48 (tcells base most budget v') := h.set_ 3 v'
theorem qrow_own_slice {w : World} {m : Nat} {v : Value} {L : En} (h : w.ownsRow m 78 68 v L.length (qrow L)) : ∃ A c, v = .slice A L.length c := by
  rcases h.2 with ⟨rfl, h0⟩ | ⟨kb, cap, cur, rfl, _⟩
  · exact ⟨none, 0, by rw [h0]⟩
  · exact ⟨_, _, rfl⟩
end Go.Proofs.Ythjgmnafbikihaa
