/-
  Dice: a row of bools that the law made, which of its places were met; the rows of a law side by side.
-/
import Derived.Test.YtpcppphdbalogaaDg
import Derived.Test.YtpcppphdbalogaaSeen
namespace Go.Proofs.Ytpcppphdbalogaa
open Go.RowKit Go.Sort

def bools (L : List Bool) : List Value := L.map Value.bool
/-- m cells that say no. -/
def falses (m : Nat) : Array Value := madeCells (Value.bool false).cells m

theorem info4 : (Try.prog.info? 4).map (fun i => (i.zero, i.size, i.bytes)) = some (some (.bool false), 1, 1) := by kernel_rfl
theorem make_bools (m : Nat) (hm : m ≤ 1000) (w : World) :
    (Instr.makeSlice 49 (.int .i64 (m : Int)) (.int .i64 (m : Int))).run Try.prog w = .ok (.slice (some ⟨w.heap.size, 0, none⟩) m m) (w.alloc (.cells (falses m) 4)) := by
  obtain ⟨i0, hi, hz0, hz1, hz2⟩ := info_parts info4
  have := run_make_rowN (P := Try.prog) 49 4 i0 (.bool false) Try.underlying49 hi hz0 .i64 .i64 m m (Nat.le_refl _) (by rw [hz2]; omega) (by omega) w
  rwa [hz1, Nat.mul_one] at this
theorem falses_own (m : Nat) (hm : m ≤ 1000) (d : Int) (w : World) : (w.alloc (.cells (falses m) 4)).ownsRow w.heap.size 4 1 (.slice (some ⟨w.heap.size, 0, none⟩) m m) m (bools (seenOf d [] m)) := by
  have hf : (falses m).toList = List.replicate m (Value.bool false) := toList_madeCells_one _ m
  have := World.ownsRow_lit (e := 4) (size := 1) w (falses m) m (Nat.le_refl _) (by unfold maxLen; omega) (by rw [← Array.length_toList, hf]; simp)
  rwa [hf, show List.replicate m (Value.bool false) = bools (seenOf d [] m) by rw [seenOf_nil]; simp [bools]] at this
theorem bools_cell {w : World} {base g c m q : Nat} {d : Int} {P : List Int} (h : w.ownsRow base 4 1 (.slice (some ⟨g, 0, none⟩) m c) m (bools (seenOf d P m))) (hq : q < m) (hp : d * (q : Int) ∉ P) : w.cell? ⟨g, q, none⟩ = some (.bool false) := by
  rw [h.cellAt q (by omega), bools, List.getElem?_map, seenOf_get hq]
  simp [hp]
theorem bools_set {w : World} {base g c m q : Nat} {d p : Int} {P : List Int} (h : w.ownsRow base 4 1 (.slice (some ⟨g, 0, none⟩) m c) m (bools (seenOf d P m))) (hd : 0 < d) (hp : p = d * (q : Int)) :
    (w.setCell ⟨g, q, none⟩ (.bool true)).ownsRow base 4 1 (.slice (some ⟨g, 0, none⟩) m c) m (bools (seenOf d (P ++ [p]) m)) ∧ w.grownBy (w.setCell ⟨g, q, none⟩ (.bool true)) (some g) := by
  have := h.stored q (.bool true)
  rw [show (bools (seenOf d P m)).set q (.bool true) = bools (seenOf d (P ++ [p]) m) by rw [bools, ← List.map_set, seenOf_set hd hp]; rfl] at this
  exact this

/-- the rows of the law's second loop: what was picked, and which of the places were met. -/
structure Met (w : World) (B : Nat) (d : Int) (A : Option Addr) (c n g m : Nat) (P : List Int) (j : Nat) : Prop where
  picked : w.ownsRow B 3 1 (.slice A n c) n (ints P)
  seen : w.ownsRow B 4 1 (.slice (some ⟨g, 0, none⟩) m m) m (bools (seenOf d (P.take j) m))

theorem Met.at_ {w : World} {B c n g m j : Nat} {d : Int} {A : Option Addr} {P : List Int} (h : Met w B d A c n g m P j) (hj : j < n) (hn : P.Nodup) {k : Nat} (hP : ∀ p ∈ P, p ∈ mults d k) (hk : k ≤ m) (hd : 0 < d) :
    ∃ gx q : Nat, A = some ⟨gx, 0, none⟩ ∧ q < k ∧ P.getD j 0 = d * (q : Int) ∧ w.cell? ⟨gx, j, none⟩ = some (.int .i64 (P.getD j 0)) ∧ w.cell? ⟨g, q, none⟩ = some (.bool false) ∧ w.frozen? ⟨g, q, none⟩ = false ∧
      Met (w.setCell ⟨g, q, none⟩ (.bool true)) B d A c n g m P (j + 1) ∧ w.grownBy (w.setCell ⟨g, q, none⟩ (.bool true)) (some g) := by
  have hl := h.picked.1
  simp [ints] at hl
  have hjl : j < P.length := by omega
  obtain ⟨gx, cx, e⟩ := own_form h.picked (by omega)
  injection e with e1 _ e2
  subst e1 e2
  have hmem : P.getD j 0 ∈ P := by
    have : P.getD j 0 = P[j] := by simp [hjl]
    rw [this]; exact List.getElem_mem hjl
  obtain ⟨q, hq, hp⟩ := mults_mem (hP _ hmem)
  have hns := nodup_not_mem hn hjl
  obtain ⟨s1, s2⟩ := bools_set h.seen hd hp
  refine ⟨gx, q, rfl, hq, hp, own_cell h.picked hj, bools_cell h.seen (by omega) (by rw [← hp]; exact hns), h.seen.frozenAt q, ⟨h.picked.kept s2 (own_type_ne h.picked h.seen (by decide)), by rw [take_getD hjl]; exact s1⟩, s2⟩
end Go.Proofs.Ytpcppphdbalogaa
