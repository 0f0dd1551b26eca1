/-
  Words for memory: a block of several cells is read whole, and set whole, whatever the cells are.
-/
import Derived.Test.YthjgmnafbikihaaWords
import Derived.Deep.MidRow
set_option linter.unusedVariables false
set_option linter.unusedSimpArgs false
namespace Go.Proofs.Ythjgmnafbikihaa
open Go.RowKit

theorem setCells_grown (b : Nat) : ∀ (vs : List Value) (o : Nat) (w : World), w.grownBy (w.setCells b o vs) (some b)
  | [], _, w => World.grownBy.refl w _
  | v :: vs, o, w => by
    have h1 : w.grownBy (w.setCell ⟨b, o, none⟩ v) (some b) := ⟨rfl, rfl, rfl, by simp, fun k _ hk => Below.heap_setCell w _ v k (fun e => hk (by rw [e]))⟩
    have h2 := setCells_grown b vs (o + 1) (w.setCell ⟨b, o, none⟩ v)
    exact ⟨h2.os.trans h1.os, h2.tape.trans h1.tape, h2.output.trans h1.output, Nat.le_trans h1.size h2.size, fun k hk hne => (h2.block k (Nat.lt_of_lt_of_le hk h1.size) hne).trans (h1.block k hk hne)⟩
theorem setCells_drawn (b : Nat) : ∀ (vs : List Value) (o : Nat) (w : World), (w.setCells b o vs).drawn = w.drawn
  | [], _, _ => rfl
  | v :: vs, o, w => (setCells_drawn b vs (o + 1) (w.setCell ⟨b, o, none⟩ v)).trans rfl
theorem setCells_blk {b : Nat} {t : TypeId} : ∀ (vs : List Value) (o : Nat) (w : World) (cs : Array Value), Blk w b t cs → o + vs.length ≤ cs.size →
    ∃ cs', Blk (w.setCells b o vs) b t cs' ∧ ∀ i, cs'[i]? = if o ≤ i ∧ i < o + vs.length then vs[i - o]? else cs[i]?
  | [], o, w, cs, h, _ => ⟨cs, h, fun i => by rw [if_neg (by rintro ⟨h1, h2⟩; simp at h2; omega)]⟩
  | v :: vs, o, w, cs, h, hl => by
    simp only [List.length_cons] at hl
    obtain ⟨cs', h1, h2⟩ := setCells_blk vs (o + 1) (w.setCell ⟨b, o, none⟩ v) _ (h.set_ o v) (by simp; omega)
    refine ⟨cs', h1, fun i => ?_⟩
    rw [h2 i]
    simp only [List.length_cons]
    by_cases h3 : o + 1 ≤ i ∧ i < o + 1 + vs.length
    · rw [if_pos h3, if_pos (by omega), show i - o = (i - (o + 1)) + 1 by omega, List.getElem?_cons_succ]
    · rw [if_neg h3]
      by_cases h4 : i = o
      · subst h4
        rw [if_pos (by omega), Nat.sub_self, List.getElem?_cons_zero, Array.getElem?_setIfInBounds_self_of_lt (by omega)]
      · rw [if_neg (by omega), Array.getElem?_setIfInBounds_ne (by omega)]
theorem setCells_whole {b : Nat} {t : TypeId} {w : World} {cs0 cs : Array Value} (h : Blk w b t cs0) (hl : cs.size = cs0.size) : Blk (w.setCells b 0 cs.toList) b t cs := by
  obtain ⟨cs', h1, h2⟩ := setCells_blk cs.toList 0 w cs0 h (by simp [hl])
  have e : cs' = cs := by
    apply Array.ext_getElem?
    intro i
    rw [h2 i]
    by_cases hi : i < cs.size
    · rw [if_pos (by simp [hi])]; simp
    · rw [if_neg (by simp [hi]), Array.getElem?_eq_none (by omega), Array.getElem?_eq_none (by omega)]
  rwa [e] at h1
theorem Blk.range {w : World} {b : Nat} {t : TypeId} {cs : Array Value} (h : Blk w b t cs) : w.rangeAt b 0 cs.toList := fun j v hv => by
  rw [Nat.zero_add, h.cell]; simpa using hv
theorem range_below {w w' : World} {B b o : Nat} {cs : List Value} (h : w.rangeAt b o cs) (hB : Below B w w') (hb : b < B) : w'.rangeAt b o cs :=
  fun j v hv => (hB.cell (p := ⟨b, o + j, none⟩) hb).trans (h j v hv)
theorem range_sub {w : World} {b o : Nat} {cs ds : List Value} (k : Nat) (h : w.rangeAt b o cs) (hs : ∀ j v, ds[j]? = some v → cs[k + j]? = some v) : w.rangeAt b (o + k) ds := fun j v hv => by
  rw [Nat.add_assoc]; exact h _ v (hs j v hv)

section
variable {P : Program} {ops : Array Oper} {rest : List Oper} {op : Oper} {a : Act} {w : World} {Q : Exit → Act → World → Prop}
/-- a whole range is read. -/
theorem wpList_load_range (t : TypeId) (x : Operand) (b o : Nat) (cs : Array Value) (d : TypeDesc) (hgd : op.guard = none) (ho : op.op = .load t x) (hx : a.eval x = .pointer (some ⟨b, o, none⟩))
    (hu : P.underlying t = some d) (hd : d.isRow = true) (hi : (P.info? t).map (·.size) = some cs.size) (hc : w.rangeAt b o cs.toList) (h : wpList P ops Q rest (a.put op.dst (.agg cs)) w) : wpList P ops Q (op :: rest) a w :=
  wpList_load_mid hgd t x ho b o hx cs.toList d hc hu hd (by rw [hi]; simp) (by simpa using h)
/-- a whole block is set. -/
theorem wpList_store_blk (t : TypeId) (x y : Operand) (b : Nat) (cs0 cs : Array Value) (hgd : op.guard = none) (ho : op.op = .store t x y) (hx : a.eval x = .pointer (some ⟨b, 0, none⟩)) (hy : a.eval y = .agg cs)
    (hi : (P.info? t).map (·.size) = some cs.size) (hb : Blk w b t cs0) (hl : cs.size = cs0.size) (h1 : ∀ v ∈ cs.toList, v.oneCell' = true)
    (h : ∀ w', Blk w' b t cs → w.grownBy w' (some b) → w'.drawn = w.drawn → wpList P ops Q rest (a.put op.dst undef) w') : wpList P ops Q (op :: rest) a w := by
  refine wpList_store_mid hgd t x y ho b 0 cs hx hy (fun j hj => ⟨?_, hb.frozen _⟩) hi ?_ (h _ (setCells_whole hb hl) (setCells_grown b cs.toList 0 w) (setCells_drawn b cs.toList 0 w))
  · rw [Nat.zero_add, hb.cell, Array.getElem?_eq_getElem (by omega)]
    rfl
  · have := all_oneCell_toArray h1
    simpa using this
end
end Go.Proofs.Ythjgmnafbikihaa
