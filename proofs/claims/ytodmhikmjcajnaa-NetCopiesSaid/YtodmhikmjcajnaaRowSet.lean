/-
  Rows of the call's own that are written in place: several cells stored one behind the other; one element cut out of a row.
-/
import Derived.Test.YtodmhikmjcajnaaWords
import Derived.Laws.CopyOwn
import Derived.Laws.IdiomCopy
namespace Go.Proofs.Ytodmhikmjcajnaa
open Go.RowKit

/-- a list with cells stored from place o on. -/
def wrl : List Value → Nat → List Value → List Value
  | L, _, [] => L
  | L, o, v :: r => wrl (L.set o v) (o + 1) r
theorem wrl_length (vs : List Value) : ∀ (L : List Value) (o : Nat), (wrl L o vs).length = L.length := by
  induction vs with
  | nil => intro L o; rfl
  | cons v r ih => intro L o; rw [wrl, ih]; simp
theorem wrl_get (vs : List Value) : ∀ (L : List Value) (o j : Nat), o + vs.length ≤ L.length → (wrl L o vs)[j]? = if o ≤ j ∧ j < o + vs.length then vs[j - o]? else L[j]? := by
  induction vs with
  | nil => intro L o j h; rw [wrl, if_neg (by simp only [List.length_nil]; omega)]
  | cons v r ih =>
    intro L o j h
    simp only [List.length_cons] at h ⊢
    rw [wrl, ih (L.set o v) (o + 1) j (by simp; omega)]
    by_cases h1 : o + 1 ≤ j ∧ j < o + 1 + r.length
    · rw [if_pos h1, if_pos (by omega), show j - o = (j - (o + 1)) + 1 by omega, List.getElem?_cons_succ]
    · rw [if_neg h1, List.getElem?_set]
      by_cases h2 : o = j
      · subst h2
        rw [if_pos rfl, if_pos (by omega), if_pos (by omega)]
        simp
      · rw [if_neg h2, if_neg (by omega)]

theorem setCells_heap (g : Nat) (e : TypeId) (vs : List Value) : ∀ (o : Nat) (w : World) (cur : Array Value), w.heap[g]? = some (.cells cur e (0, 0)) →
    ∃ cur', (w.setCells g o vs).heap[g]? = some (.cells cur' e (0, 0)) ∧ cur'.toList = wrl cur.toList o vs := by
  induction vs with
  | nil => intro o w cur h; exact ⟨cur, h, rfl⟩
  | cons v r ih =>
    intro o w cur h
    obtain ⟨cur', h1, h2⟩ := ih (o + 1) (w.setCell ⟨g, o, none⟩ v) (cur.setIfInBounds o v) (heap_setCell_same w g o cur e v h)
    exact ⟨cur', h1, by rw [h2, Array.toList_setIfInBounds]; rfl⟩
theorem grown_setCells (g : Nat) (vs : List Value) : ∀ (o : Nat) (w : World), w.grownBy (w.setCells g o vs) (some g) := by
  induction vs with
  | nil => intro o w; exact World.grownBy.refl _ _
  | cons v r ih =>
    intro o w
    have h := ih (o + 1) (w.setCell ⟨g, o, none⟩ v)
    have hs : (w.setCell ⟨g, o, none⟩ v).heap.size = w.heap.size := by simp [World.setCell]
    refine ⟨h.os, h.tape, h.output, Nat.le_trans (Nat.le_of_eq hs.symm) h.size, fun k hk hne => (h.block k (by simpa [World.setCell] using hk) hne).trans (Below.heap_setCell w _ v k (fun e => hne (by rw [e])))⟩

theorem own_cut {w : World} {base e size g n cap i : Nat} {xs zs : List Value} (h : w.ownsRow base e size (.slice (some ⟨g, 0, none⟩) n cap) n xs) (hi : i < n) (hz : zs.length = size) :
    ((w.setCells g (i * size) (xs.drop ((i + 1) * size))).setCells g ((n - 1) * size) zs).ownsRow base e size (.slice (some ⟨g, 0, none⟩) (n - 1) cap) (n - 1) (xs.take (i * size) ++ xs.drop ((i + 1) * size)) ∧
    w.grownBy ((w.setCells g (i * size) (xs.drop ((i + 1) * size))).setCells g ((n - 1) * size) zs) (some g) := by
  have hg1 := grown_setCells g (xs.drop ((i + 1) * size)) (i * size) w
  have hg2 := grown_setCells g zs ((n - 1) * size) (w.setCells g (i * size) (xs.drop ((i + 1) * size)))
  refine ⟨?_, ⟨hg2.os.trans hg1.os, hg2.tape.trans hg1.tape, hg2.output.trans hg1.output, Nat.le_trans hg1.size hg2.size, fun k hk hne => (hg2.block k (Nat.lt_of_lt_of_le hk hg1.size) hne).trans (hg1.block k hk hne)⟩⟩
  rcases h.2 with ⟨h', _⟩ | ⟨g', cap', cur, h', hb, hg, hnc, hcm, hcs, htake⟩
  · simp at h'
  · simp only [Value.slice.injEq, Option.some.injEq, Addr.mk.injEq, and_true, true_and] at h'
    obtain ⟨rfl, rfl⟩ := h'
    have hl : xs.length = n * size := h.1
    have m1 : (i + 1) * size ≤ n * size := Nat.mul_le_mul_right _ (by omega)
    have m2 : n * size ≤ cap * size := Nat.mul_le_mul_right _ hnc
    have e1 : (i + 1) * size = i * size + size := Nat.succ_mul _ _
    have e2 : n * size = (n - 1) * size + size := by rw [← Nat.succ_mul]; congr 1; omega
    obtain ⟨c1, hh1, t1⟩ := setCells_heap g e (xs.drop ((i + 1) * size)) (i * size) w cur hg
    obtain ⟨c2, hh2, t2⟩ := setCells_heap g e zs ((n - 1) * size) _ c1 hh1
    have hcl : cur.toList.length = cap * size := by simpa using hcs
    have l1 : (xs.drop ((i + 1) * size)).length = (n - 1) * size - i * size := by rw [List.length_drop, hl]; omega
    have s2 : c2.size = cap * size := by rw [← Array.length_toList, t2, wrl_length, t1, wrl_length, hcl]
    refine ⟨by rw [List.length_append, List.length_take, l1, hl]; omega, .inr ⟨g, cap, c2, rfl, hb, hh2, by omega, hcm, s2, ?_⟩⟩
    apply List.ext_getElem?
    intro j
    rw [List.getElem?_take, t2, wrl_get _ _ _ _ (by rw [t1, wrl_length, hcl, hz]; omega), t1, wrl_get _ _ _ _ (by rw [hcl, l1]; omega), l1, hz]
    by_cases hj : j < (n - 1) * size
    · rw [if_pos hj, if_neg (by omega)]
      by_cases hji : j < i * size
      · rw [if_neg (by omega), List.getElem?_append_left (by rw [List.length_take]; omega), List.getElem?_take, if_pos hji, ← htake, List.getElem?_take, if_pos (by omega)]
      · have hlt : (xs.take (i * size)).length = i * size := by rw [List.length_take]; omega
        rw [if_pos (by omega), List.getElem?_append_right (by omega), hlt]
    · rw [if_neg hj, List.getElem?_eq_none]
      rw [List.length_append, List.length_take, l1, hl]; omega
end Go.Proofs.Ytodmhikmjcajnaa
