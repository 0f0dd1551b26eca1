/-
  Net: bytes as a string; the document's example holds.
-/
import Derived.Test.YtodmhikmjcajnaaNg
import Derived.Lib.SlBytesConst
import Derived.Laws.BytesArg
namespace Go.Proofs.Ytodmhikmjcajnaa
open Go.RowKit

/-- the string of bytes. -/
def strD (d : List Int) : ByteArray := ⟨(d.map fun n => UInt8.ofNat n.toNat).toArray⟩
theorem conv_reads (A : Option Addr) (n c : Nat) (d : List Int) (B : Nat) (w : World) (h : Reads w B 1 A n (bytes d)) : (convert 28 9 (.slice A n c)).run Try.prog w = .ok (.string (strD d)) w := by
  have hl := h.1
  rw [bytes_length, Nat.mul_one] at hl
  rw [run_convert_bytes_string w 28 9 5 A n c Try.underlying28 Try.underlying5 Try.underlying9]
  rcases Nat.eq_zero_or_pos n with rfl | hn
  · obtain rfl := List.eq_nil_of_length_eq_zero hl
    cases A with
    | none => rfl
    | some a =>
      have := run_bytesToString (P := Try.prog) w a 0 c [] (run_loadCells_list (P := Try.prog) w a [] (fun j v hj => by simp at hj))
      rw [this]; rfl
  · obtain ⟨ad, rfl, _, hc⟩ := h.2 hn
    have hld : (loadCells ad n).run Try.prog w = .ok (d.map (Value.int .u8)).toArray w := by
      have := run_loadCells_list (P := Try.prog) w ad (d.map (Value.int .u8)) hc
      simpa [hl] using this
    rw [run_bytesToString (P := Try.prog) w ad n c d hld, foldl_push_bytes]
    simp [strD, ByteArray.empty, ByteArray.emptyWithCapacity]
    rfl

theorem node_iff (k : Int) : node k = true ↔ 0 ≤ k ∧ k < 64 := by simp [node]

theorem strD_a : strD [97] = ⟨#[97]⟩ := by rfl

theorem reads_mark (w : World) : Reads (w.alloc (.cells #[.int .u8 97] 5 (1, 2))) (w.alloc (.cells #[.int .u8 97] 5 (1, 2))).heap.size 1 (some ⟨w.heap.size, 0, none⟩) 1 (bytes [97]) :=
  ⟨rfl, fun _ => ⟨_, rfl, by simp, fun j v hv => by
    match j, hv with
    | 0, hv => simp [bytes] at hv; subst hv; rw [Addr.add_lit]; exact (cell_of_row _ w.heap.size 0 _ 5 (1, 2) (heap_alloc_new w _)).trans rfl⟩⟩
theorem awake_any (w : World) : Calls Try.prog 7 #[] w fun e w' => e = .returned (.bool true) ∧ Below w.heap.size w w' := by
  have kc := fun (w : World) (C : Array Value) (n c : Nat) => Lib.run_convert_bytes_const (P := Try.prog) w 28 5 C n c Try.underlying28 Try.underlying5
  go_enter Try.func7, Try.ntmps7
  go_wp2_with fail
  refine (new_ok 1 w (by omega) (by omega)).mono ?_
  rintro e w1 ⟨rfl, hnet, hB1⟩
  go_wp2_with fail
  have hW1 : Below w1.heap.size w1 (w1.alloc (.cells #[.int .u8 97] 5 (1, 2))) := (Below.refl _ w1).alloc (Nat.le_refl _) _
  have hBW1 : Below w.heap.size w (w1.alloc (.cells #[.int .u8 97] 5 (1, 2))) := hB1.alloc hB1.size _
  refine (post_ok w.heap.size _ 1 0 [] _ (hnet.below hW1) 1 2 _ 1 1 [97] (reads_mark w1) (by omega) rfl (by simp) (by simp)).mono ?_
  rintro e w2 ⟨rfl, S2, hnet2, hS2, hK2⟩
  have hSb2 : ∀ x, S2 x → w.heap.size ≤ x := fun x hx => by
    rcases hS2 x hx with h | h
    · have h' : x = w.heap.size := h
      omega
    · have h1 := h.1; rw [World.size_alloc] at h1; have := hB1.size; omega
  have hB2 := hK2.below hBW1 (fun x hx => by have h' : x = w.heap.size := hx; omega)
  clear hnet hW1 hBW1 hB1 hS2 hK2
  go_wp2_with fail
  refine (post_full w.heap.size S2 1 0 _ _ hnet2 1 2 none 0 0 rfl (by simp) (by omega) (by omega)).mono ?_
  rintro e w3 ⟨rfl, hnet3, hK3⟩
  have hB3 := hK3.below hB2 hSb2
  clear hnet2 hB2 hK3
  go_wp2_with fail
  refine (take_any w.heap.size S2 1 (0 + 1) 0 _ _ hnet3 (by simp) (by simp)).mono ?_
  rintro e w4 ⟨A, n, c, rfl, hr4, hn4, hc4, hnet4, hK4⟩
  have hB4 := hK4.below hB3 hSb2
  simp at hr4
  have hl4 := hr4.1
  clear hnet3 hB3 hK4
  replace hnet4 : IsNet w4 w.heap.size S2 1 (0 + 1) [] := hnet4
  have hnet5 := hnet4.below ((Below.refl _ w4).alloc (Nat.le_refl _) (.cells #[.int .i64 1, .int .i64 2, .slice A n c] 31))
  have hB5 := hB4.alloc hB4.size (.cells #[.int .i64 1, .int .i64 2, .slice A n c] 31)
  have HL := Lib.hid (len_any w.heap.size S2 1 (0 + 1) _ _ hnet5)
  have HO := Lib.hid (lost_any w.heap.size S2 1 (0 + 1) _ _ hnet5)
  have HC := Lib.hid (copy_no w.heap.size S2 1 (0 + 1) 0 _ _ hnet5 (by simp))
  have hcv : (convert 28 9 (.slice A n c)).run Try.prog (w4.alloc (.cells #[.int .i64 1, .int .i64 2, .slice A n c] 31)) = .ok (.string ⟨#[97]⟩) _ := conv_reads A n c [97] _ _ (hr4.alloc (Nat.le_refl _) (.cells #[.int .i64 1, .int .i64 2, .slice A n c] 31))
  clear hnet4 hnet5 hr4 hl4 hn4 hc4 hB4
  go_wp2_with fail
  refine HL.out.mono ?_
  rintro e w5 ⟨rfl, rfl⟩
  go_wp2_with fail
  refine HO.out.mono ?_
  rintro e w5 ⟨rfl, rfl⟩
  go_wp2_with fail
  refine HC.out.mono ?_
  rintro e w5 ⟨rfl, rfl⟩
  go_wp2_with fail
  go_ret
  exact ⟨rfl, hB5⟩
end Go.Proofs.Ytodmhikmjcajnaa
