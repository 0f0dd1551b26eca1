/-
  Net: a slice of slices of bytes that came in; bytes of a string, laid anew.
-/
import Derived.Test.YtodmhikmjcajnaaNi
import Derived.Lib.ConvBytes
namespace Go.Proofs.Ytodmhikmjcajnaa
open Go.RowKit

/-- the bytes of the r-th slice. -/
def dataOf (L : Nat → Nat) (Z : Nat → List Int) (r : Nat) : List Int := rowOf (Z r) (L r)
theorem dataOf_length (L : Nat → Nat) (Z : Nat → List Int) (r : Nat) : (dataOf L Z r).length = L r := rowOf_length _ _

theorem rows_cases {w : World} {a : Option Addr} {len cap : Nat} {A : Nat → Option Addr} {L C : Nat → Nat} {Z : Nat → List Int}
    (h : (a = none ∧ len = 0 ∧ cap = 0) ∨
      ∃ x, a = some x ∧ len ≤ cap ∧ cap ≤ maxLen ∧ ∀ r, r < cap → w.cell? (x.add r) = some (.slice (A r) (L r) (C r)) ∧ L r ≤ C r ∧ C r ≤ maxLen ∧ (Z r).length = C r ∧ (∀ n ∈ Z r, (Lit.int .u8 n).wf = true) ∧ (A r = none → C r = 0) ∧
        ∀ a', A r = some a' → ∀ c, c < C r → w.cell? (a'.add c) = some (.int .u8 ((Z r).getD c 0))) :
    len ≤ 9223372036854775807 ∧ (len = 0 ∨ ∃ b off, a = some ⟨b, off, none⟩ ∧ b < w.heap.size ∧ ∀ r, r < len → w.cell? ⟨b, off + r, none⟩ = some (.slice (A r) (L r) (C r)) ∧ L r ≤ C r ∧ L r ≤ 9223372036854775807 ∧
      Reads w w.heap.size 1 (A r) (L r) (bytes (dataOf L Z r)) ∧ ∀ n ∈ dataOf L Z r, 0 ≤ n ∧ n ≤ 255) := by
  rcases h with ⟨rfl, rfl, rfl⟩ | ⟨⟨b, off, spot⟩, rfl, hl, hm, hr⟩
  · exact ⟨by omega, .inl rfl⟩
  · refine ⟨by unfold maxLen at hm; omega, ?_⟩
    rcases Nat.eq_zero_or_pos len with h0 | h0
    · exact .inl h0
    · have c0 := (hr 0 (by omega)).1
      have hsp : spot = none := by simpa [Addr.add] using World.cell?_spot c0
      subst hsp
      refine .inr ⟨b, off, rfl, ?_, fun r hrl => ?_⟩
      · have := World.block_lt_of_cell? w _ c0
        rwa [block_of_add] at this
      · obtain ⟨h1, h2, h3, h4, h5, h6, h7⟩ := hr r (by omega)
        rw [Addr.add_lit] at h1
        refine ⟨h1, h2, by unfold maxLen at h3; omega, ⟨by simp [bytes, dataOf, rowOf], fun hp => ?_⟩, fun n hn => ?_⟩
        · cases hA : A r with
          | none => have := h6 hA; omega
          | some x =>
            refine ⟨x, rfl, ?_, fun j u hu => ?_⟩
            · have := World.block_lt_of_cell? w _ (h7 x hA 0 (by omega))
              rwa [block_of_add] at this
            · have hj : j < L r := by
                have := (List.getElem?_eq_some_iff.1 hu).1
                simpa [bytes, dataOf, rowOf] using this
              rw [h7 x hA j (by omega), ← hu]
              simp [bytes, dataOf, rowOf, hj]
        · simp only [dataOf, rowOf, List.mem_map, List.mem_range] at hn
          obtain ⟨j, hj, rfl⟩ := hn
          have hmem : (Z r).getD j 0 ∈ Z r := by
            have hk' : j < (Z r).length := by omega
            simp [hk']
          exact bounds_u8 (h5 _ hmem)

theorem strD_size (d : List Int) : (strD d).size = d.length := by simp [strD, ByteArray.size]
theorem strD_get (d : List Int) (hd : ∀ n ∈ d, 0 ≤ n ∧ n ≤ 255) (j : Nat) (hj : j < d.length) : (((strD d).data.toList.getD j 0).toNat : Int) = d.getD j 0 := by
  have h1 : (strD d).data.toList.getD j 0 = UInt8.ofNat (d.getD j 0).toNat := by simp [strD, hj]
  rw [h1]
  have h2 := hd (d.getD j 0) (by have : d.getD j 0 = d[j] := by simp [hj]
                                 rw [this]; exact List.getElem_mem hj)
  have h3 : (UInt8.ofNat (d.getD j 0).toNat).toNat = (d.getD j 0).toNat := by
    rw [UInt8.toNat_ofNat']; omega
  rw [h3]; omega
theorem reads_laid (w : World) (d : List Int) (hd : ∀ n ∈ d, 0 ≤ n ∧ n ≤ 255) : Reads (Lib.bytesWorld w 5 (strD d)) (Lib.bytesWorld w 5 (strD d)).heap.size 1 (some ⟨w.heap.size, 0, none⟩) d.length (bytes d) := by
  refine ⟨by simp [bytes], fun hp => ⟨_, rfl, by rw [Lib.bytesWorld_size]; exact Nat.lt_succ_self _, fun j u hu => ?_⟩⟩
  have hj : j < d.length := by
    have := (List.getElem?_eq_some_iff.1 hu).1
    simpa [bytes] using this
  rw [Addr.add_lit, Nat.zero_add, Lib.bytesWorld_cell w 5 (strD d) j (by rw [strD_size]; exact hj), strD_get d hd j hj, ← hu]
  simp [bytes, hj]
theorem laid_below (w : World) (d : List Int) : Below w.heap.size w (Lib.bytesWorld w 5 (strD d)) :=
  ⟨rfl, rfl, rfl, by rw [Lib.bytesWorld_size]; omega, fun j hj => Lib.bytesWorld_at_old w 5 (strD d) j hj⟩
theorem laid_free (w : World) (d : List Int) (hd : 0 < d.length) : (Lib.bytesWorld w 5 (strD d)).frozen? ⟨w.heap.size, 0, none⟩ = false := by
  have h := Lib.bytesWorld_at_new w 5 (strD d)
  have hc : 0 < (Lib.bytesCells w 5 (strD d)).size := by
    rcases Nat.eq_zero_or_pos (Lib.bytesCells w 5 (strD d)).size with h0 | h0
    · exfalso
      have h1 := Lib.bytesWorld_cell w 5 (strD d) 0 (by rw [strD_size]; exact hd)
      rw [cell_of_row _ w.heap.size 0 _ 5 _ h, Array.getElem?_eq_none (by omega)] at h1
      cases h1
    · exact h0
  simp only [World.frozen?, h]
  simp
  intro e
  rw [e] at hc
  simp at hc
end Go.Proofs.Ytodmhikmjcajnaa
