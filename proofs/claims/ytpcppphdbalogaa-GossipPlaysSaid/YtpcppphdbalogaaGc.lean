/-
  Gossip: 'others' tells as the plain 'oth' does.
-/
import Derived.Test.YtpcppphdbalogaaGb
import Derived.Test.YtpcppphdbalogaaOth
import Derived.Test.YtpcppphdbalogaaDh
namespace Go.Proofs.Ytpcppphdbalogaa
open Go.RowKit Go.Sort

theorem bools_cell2 {w : World} {base g c m q : Nat} {P : List Int} (h : w.ownsRow base 4 1 (.slice (some ⟨g, 0, none⟩) m c) m (bools (seenOf 1 P m))) (hq : q < m) : w.cell? ⟨g, q, none⟩ = some (.bool (decide ((q : Int) ∈ P))) := by
  rw [h.cellAt q (by omega), bools, List.getElem?_map, seenOf_get hq]
  simp

/-- what holds ahead of each round of 'others'. -/
structure OthRel (w wr : World) (sb m i : Nat) (me : Int) (may : Int → Bool) (zs : List Int) (ov : Value) : Prop where
  seen : wr.ownsRow w.heap.size 4 1 (.slice (some ⟨sb, 0, none⟩) m m) m (bools (seenOf 1 (oth m me may (zs.take i)) m))
  out : wr.ownsRow w.heap.size 3 1 ov (oth m me may (zs.take i)).length (ints (oth m me may (zs.take i)))
  below : Below w.heap.size w wr

theorem isl_cell {w : World} {a : Option Addr} {n i : Nat} {zs : List Int} (h : IsL w a n zs) (hi : i < n) : ∃ b off, a = some ⟨b, off, none⟩ ∧ b < w.heap.size ∧ w.cell? ⟨b, off + i, none⟩ = some (.int .i64 (zs.getD i 0)) := by
  obtain ⟨⟨b, off, spot⟩, e, hb, hc⟩ := h.2.2.2 (by omega)
  have hc' : ∀ j, j < zs.length → w.cell? ((⟨b, off, spot⟩ : Addr).add j) = some (.int .i64 (zs.getD j 0)) := fun j hj => hc j _ (by simp [ints, hj])
  have h0 := hc' 0 (by rw [h.1]; omega)
  have hsp : spot = none := by simpa [Addr.add] using World.cell?_spot h0
  subst hsp
  have h1 := hc' i (by rw [h.1]; omega)
  rw [Addr.add_lit] at h1
  exact ⟨b, off, e, hb, h1⟩

theorem OthRel.skip {w wr : World} {sb m i : Nat} {me : Int} {may : Int → Bool} {zs : List Int} {ov : Value} (h : OthRel w wr sb m i me may zs ov) (hi : i < zs.length) (hc : canTell m me may (oth m me may (zs.take i)) (zs.getD i 0) = false) : OthRel w wr sb m (i + 1) me may zs ov := by
  have e : oth m me may (zs.take (i + 1)) = oth m me may (zs.take i) := by rw [oth_take hi, othStep, hc]; rfl
  exact ⟨by rw [e]; exact h.seen, by rw [e]; exact h.out, h.below⟩

theorem OthRel.take {w wr w3 : World} {sb m i q : Nat} {me : Int} {may : Int → Bool} {zs : List Int} {ov v3 : Value} {o : Obj} (h : OthRel w wr sb m i me may zs ov) (hi : i < zs.length) (hk : zs.getD i 0 = q)
    (hc : canTell m me may (oth m me may (zs.take i)) (q : Int) = true)
    (hown : w3.ownsRow w.heap.size 3 1 v3 ((oth m me may (zs.take i)).length + 1) (ints (oth m me may (zs.take i)) ++ [.int .i64 (q : Int)])) (hgrow : ((wr.setCell ⟨sb, q, none⟩ (.bool true)).alloc o).grownBy w3 ov.ownBlock) : OthRel w w3 sb m (i + 1) me may zs v3 := by
  have e : oth m me may (zs.take (i + 1)) = oth m me may (zs.take i) ++ [(q : Int)] := by rw [oth_take hi, othStep, hk, hc]; rfl
  obtain ⟨s1, s2⟩ := bools_set (d := 1) (q := q) (p := (q : Int)) h.seen (by omega) (by omega)
  have hne : ov.ownBlock ≠ some sb := by
    rcases own_type_ne h.out h.seen (by decide) with h0 | h0
    · rw [h0]; simp
    · exact h0
  have o2 := h.out.kept s2 (own_type_ne h.out h.seen (by decide))
  have B2 : Below w.heap.size w (wr.setCell ⟨sb, q, none⟩ (.bool true)) := h.below.grown s2 h.below.size (fun k e => by injection e with e; have := (h.seen.lt sb rfl).1; omega)
  refine ⟨by rw [e]; exact (s1.alloc o).kept hgrow (.inr (fun e => hne e.symm)), by rw [e]; simpa [ints] using hown, (B2.alloc B2.size o).grown hgrow (by have := B2.size; simp at this ⊢; omega) (fun k e => (o2.lt k e).1)⟩
end Go.Proofs.Ytpcppphdbalogaa
