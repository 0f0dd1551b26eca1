/-
  Gossip: what the law of plays shares: the boxes' sizes, an act's cells, what both told.
-/
import Derived.Test.YtpcppphdbalogaaHg
namespace Go.Proofs.Ytpcppphdbalogaa
open Go.RowKit Go.Sort Go.Maps

theorem size31 (me many fan s : Int) (tv : Value) : (Try.prog.info? 31).map (·.size) = some (refCells me many fan s tv).size := by
  show _ = some 5
  kernel_rfl
theorem size38 : (Try.prog.info? 38).map (·.size) = some 35 := by kernel_rfl
theorem ref_ones (me many fan s : Int) (ta : Option Addr) (tn tc : Nat) : ∀ v ∈ (refCells me many fan s (.slice ta tn tc)).toList, v.oneCell' = true := by
  intro v hv
  simp [refCells] at hv
  rcases hv with rfl | rfl | rfl | rfl | rfl <;> rfl
theorem act_length {kd fr : Int} {A : Option Addr} {n c : Nat} {id : List Int} (h : id.length = 32) : (actCells kd A n c id fr).length = 35 := by simp [actCells, h]
theorem act_ones (kd fr : Int) (A : Option Addr) (n c : Nat) (id : List Int) : ∀ v ∈ actCells kd A n c id fr, v.oneCell' = true := by
  intro v hv
  simp only [actCells, List.mem_cons, List.mem_append, List.mem_map, List.not_mem_nil, or_false] at hv
  rcases hv with rfl | rfl | ⟨_, _, rfl⟩ | rfl <;> rfl
theorem act_last {kd fr : Int} {A : Option Addr} {n c : Nat} {id : List Int} (h : id.length = 32) : (actCells kd A n c id fr)[34]? = some (.int .i64 fr) := by
  show (id.map (Value.int .u8) ++ [.int .i64 fr])[32]? = _
  rw [List.getElem?_append_right (by simp [h])]
  simp [h]
theorem act_id {kd fr : Int} {A : Option Addr} {n c : Nat} {id : List Int} {j : Nat} {v : Value} (h : (id.map (Value.int .u8))[j]? = some v) : (actCells kd A n c id fr)[2 + j]? = some v := by
  rw [Nat.add_comm]
  show (id.map (Value.int .u8) ++ [.int .i64 fr])[j]? = _
  have hj := (List.getElem?_eq_some_iff.1 h).1
  rw [List.getElem?_append_left hj]
  exact h

theorem flr_tell {m : Nat} {me f : Int} {T : List Int → Bool} {L : List (List Int)} (h : ∀ zs, T zs = decide (zs ∈ L)) (zs l : List Int) : flr m me f T zs l = tellF m me f L zs l := by
  unfold flr tellF
  rw [h zs]
  by_cases hz : zs ∈ L <;> simp [hz]
theorem put_tell {T : List Int → Bool} {L : List (List Int)} (h : ∀ zs, T zs = decide (zs ∈ L)) (zs : List Int) : ∀ x, put T zs x = decide (x ∈ tell L zs) := by
  intro x
  unfold put tell
  rw [h x]
  by_cases hz : zs ∈ L
  · rw [if_pos hz]
    by_cases hx : x = zs
    · subst hx; simp [hz]
    · simp [hx]
  · rw [if_neg hz]
    by_cases hx : x = zs <;> by_cases hxL : x ∈ L <;> simp [hx, hxL]
theorem tell_h {L : List (List Int)} (h : ∀ x ∈ L, IsH x) {zs : List Int} (hz : IsH zs) : ∀ x ∈ tell L zs, IsH x := by
  intro x hx
  unfold tell at hx
  split at hx
  · exact h x hx
  · rcases List.mem_append.1 hx with h1 | h1
    · exact h x h1
    · rw [List.mem_singleton.1 h1]; exact hz
theorem tell_length {L : List (List Int)} {zs : List Int} : (tell L zs).length ≤ L.length + 1 := by
  unfold tell; split <;> simp
theorem told_count {w : World} {B tn tc : Nat} {ta : Option Addr} {L : List (List Int)} (hL : ∀ x ∈ L, IsH x) (h : w.ownsRow B 36 32 (.slice ta tn tc) tn (tcells L)) : L.length = tn := by
  have h1 := h.1
  rw [tcells_length (fun x hx => (hL x hx).1)] at h1
  omega
theorem range_grown {w w' : World} {b o : Nat} {cs : List Value} {row : Option Nat} (h : w.rangeAt b o cs) (hg : w.grownBy w' row) (hb : b < w.heap.size) (hne : some b ≠ row) : w'.rangeAt b o cs :=
  fun j v hv => (World.cell?_of_block (a := ⟨b, o + j, none⟩) (hg.block b hb hne)).trans (h j v hv)
theorem cell_grown {w w' : World} {b o : Nat} {v : Value} {row : Option Nat} (h : w.cell? ⟨b, o, none⟩ = some v) (hg : w.grownBy w' row) (hb : b < w.heap.size) (hne : some b ≠ row) : w'.cell? ⟨b, o, none⟩ = some v :=
  (World.cell?_of_block (a := ⟨b, o, none⟩) (hg.block b hb hne)).trans h
theorem want_le (l : List Int) (k : Int) : Dp.want l k ≤ l.length := Nat.min_le_right _ _
end Go.Proofs.Ytpcppphdbalogaa
