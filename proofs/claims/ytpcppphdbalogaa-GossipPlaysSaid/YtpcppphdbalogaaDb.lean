/-
  Dice: Clone and Delete of a row of integers that the call owns, and what the library's Delete leaves, said of the owned row.
-/
import Derived.Test.YtpcppphdbalogaaShelf
import Derived.Test.YtpcppphdbalogaaDa
namespace Go.Proofs.Ytpcppphdbalogaa
open Go.RowKit Go.Sort

def ints (zs : List Int) : List Value := zs.map (Value.int .i64)

theorem grown_put {α : Type} [Inhabited α] (enc : α → Value) (w : World) (q g off : Nat) (d : Array α) : w.grownBy (putRow enc (Sort.ahead w q) g off d) (some g) :=
  ⟨rfl, rfl, rfl, by simp, fun k _ hk => by
    have hne : k ≠ g := fun e => hk (by rw [e])
    show (w.heap.modify g _)[k]? = w.heap[k]?
    rw [Array.getElem?_modify, if_neg (fun e => hne e.symm)]⟩

theorem own_holds {w : World} {base g cap : Nat} {zs : List Int} (h : w.ownsRow base 3 1 (.slice (some ⟨g, 0, none⟩) zs.length cap) zs.length (ints zs)) : Holds (Value.int .i64) w g 0 zs.toArray := by
  intro j hj
  have hj' : j < zs.length := by simpa using hj
  refine ⟨?_, by rw [Nat.zero_add]; exact h.frozenAt j⟩
  rw [Nat.zero_add, h.cellAt j (by omega)]
  simp [ints, hj']

theorem own_cap {w : World} {base g cap n : Nat} {zs : List Value} (h : w.ownsRow base 3 1 (.slice (some ⟨g, 0, none⟩) n cap) n zs) : n ≤ cap ∧ cap ≤ maxLen := by
  rcases h.2 with ⟨h', _⟩ | ⟨g', cap', cur, h', hb, hg, hnc, hcm, hcs, htake⟩
  · simp at h'
  · simp only [Value.slice.injEq, Option.some.injEq, Addr.mk.injEq, and_true, true_and] at h'
    obtain ⟨rfl, rfl⟩ := h'
    exact ⟨hnc, hcm⟩

theorem own_put {w : World} {base g cap q : Nat} {zs ys : List Int} {m : Nat} (h : w.ownsRow base 3 1 (.slice (some ⟨g, 0, none⟩) zs.length cap) zs.length (ints zs)) (hy : ys.length = zs.length) (hm : m ≤ zs.length) :
    (putRow (Value.int .i64) (Sort.ahead w q) g 0 ys.toArray).ownsRow base 3 1 (.slice (some ⟨g, 0, none⟩) m cap) m (ints (ys.take m)) := by
  rcases h.2 with ⟨h', _⟩ | ⟨g', cap', cur, h', hb, hg, hnc, hcm, hcs, htake⟩
  · simp at h'
  · simp only [Value.slice.injEq, Option.some.injEq, Addr.mk.injEq, and_true, true_and] at h'
    obtain ⟨rfl, rfl⟩ := h'
    refine ⟨by simp [ints]; omega, .inr ⟨g, cap, putCells (Value.int .i64) 0 ys.toArray cur, rfl, hb, ?_, by omega, hcm, by simp [putCells, hcs], ?_⟩⟩
    · show (w.heap.modify g (onCells (putCells (Value.int .i64) 0 ys.toArray)))[g]? = _
      rw [Array.getElem?_modify, if_pos rfl, hg]
      rfl
    · apply List.ext_getElem?
      intro k
      simp only [ints, putCells, List.getElem?_take, List.getElem?_map, Array.getElem?_toList, Array.getElem?_mapIdx, Nat.mul_one]
      by_cases hk : k < m
      · have hkc : k < cur.size := by omega
        have hky : k < ys.length := by omega
        rw [if_pos hk, if_pos hk, Array.getElem?_eq_getElem hkc, List.getElem?_eq_getElem hky, Option.map_some, Option.map_some, if_pos ⟨Nat.zero_le _, by simpa using hky⟩]
        simp [hky]
      · rw [if_neg hk, if_neg hk]; rfl

theorem del_own (g cap i base : Nat) (zs : List Int) (w : World) (h : w.ownsRow base 3 1 (.slice (some ⟨g, 0, none⟩) zs.length cap) zs.length (ints zs)) (hi : i < zs.length) :
    Calls Try.prog 26 #[.slice (some ⟨g, 0, none⟩) zs.length cap, .int .i64 i, .int .i64 ((i : Int) + 1)] w fun e w' => e = .returned (.slice (some ⟨g, 0, none⟩) (zs.length - 1) cap) ∧
      w'.ownsRow base 3 1 (.slice (some ⟨g, 0, none⟩) (zs.length - 1) cap) (zs.length - 1) (ints (zs.take i ++ zs.drop (i + 1))) ∧ w.grownBy w' (some g) := by
  have hc := own_cap h
  have hcm : cap ≤ 9223372036854775807 := by have := hc.2; unfold maxLen at this; omega
  have H := Try.slices_Delete_int g 0 cap i (i + 1) zs w (own_holds h) hc.1 hcm (by omega) (by omega)
  rw [show i + 1 - i = 1 by omega] at H
  refine H.mono ?_
  rintro e w' ⟨rfl, q, rfl⟩
  refine ⟨rfl, ?_, grown_put _ _ _ _ _ _⟩
  have P := own_put (q := q) (ys := zs.take i ++ zs.drop (i + 1) ++ List.replicate 1 0) (m := zs.length - 1) h (by simp; omega) (by omega)
  have e : (zs.take i ++ zs.drop (i + 1) ++ List.replicate 1 0).take (zs.length - 1) = zs.take i ++ zs.drop (i + 1) := by
    have hl : (zs.take i ++ zs.drop (i + 1)).length = zs.length - 1 := by simp; omega
    rw [← hl]; exact List.take_left
  rwa [e] at P
end Go.Proofs.Ytpcppphdbalogaa
