/-
  Net: New, Len, Lost, there; whether somebody may post.
-/
import Derived.Test.YtodmhikmjcajnaaNa
namespace Go.Proofs.Ytodmhikmjcajnaa
open Go.RowKit

theorem new_ok (k : Int) (w : World) (h1 : 1 ≤ k) (h2 : k ≤ 256) :
    Calls Try.prog 8 #[.int .i64 k] w fun e w' => e = .returned (.tuple #[.pointer (some ⟨w.heap.size, 0, none⟩), .int .i64 0]) ∧ IsNet w' w.heap.size (fun x => x = w.heap.size) k 0 [] ∧ Below w.heap.size w w' := by
  go_enter Try.func8, Try.ntmps8
  go_wp2
  go_ret2
  refine ⟨rfl, ?_, (Below.refl _ _).alloc (Nat.le_refl _) _⟩
  exact ⟨fun x hx => by subst hx; simp, .slice none 0 0, [], rfl, heap_alloc_new w _, World.ownsRow_nil _ _ _ _, fun g e => by simp [Value.ownBlock] at e, rfl, fun e he => by cases he⟩

theorem len_any (N : Nat) (S : Nat → Prop) (room lost : Int) (ms : List Mail) (w : World) (h : IsNet w N S room lost ms) :
    Calls Try.prog 12 #[.pointer (some ⟨N, 0, none⟩)] w fun e w' => e = .returned (.int .i64 ms.length) ∧ w' = w := by
  obtain ⟨A, c, hb, _, _⟩ := h.at_
  have h2 : w.cell? ⟨N, 2, none⟩ = some (.slice A ms.length c) := hb.cell 2
  clear h hb
  go_enter Try.func12, Try.ntmps12
  go_wp2
  go_ret
  exact ⟨rfl, rfl⟩

theorem lost_any (N : Nat) (S : Nat → Prop) (room lost : Int) (ms : List Mail) (w : World) (h : IsNet w N S room lost ms) :
    Calls Try.prog 10 #[.pointer (some ⟨N, 0, none⟩)] w fun e w' => e = .returned (.int .i64 lost) ∧ w' = w := by
  obtain ⟨A, c, hb, _, _⟩ := h.at_
  have h2 : w.cell? ⟨N, 1, none⟩ = some (.int .i64 lost) := hb.cell 1
  clear h hb
  go_enter Try.func10, Try.ntmps10
  go_wp2
  go_ret
  exact ⟨rfl, rfl⟩

theorem there_any (N : Nat) (S : Nat → Prop) (room lost i : Int) (ms : List Mail) (w : World) (h : IsNet w N S room lost ms) (b : Bool) (hb : b = decide (0 ≤ i ∧ i < ms.length)) :
    Calls Try.prog 17 #[.pointer (some ⟨N, 0, none⟩), .int .i64 i] w fun e w' => e = .returned (.bool b) ∧ w' = w := by
  obtain ⟨A, c, hk, _, _⟩ := h.at_
  have h2 : w.cell? ⟨N, 2, none⟩ = some (.slice A ms.length c) := hk.cell 2
  clear h hk
  by_cases h0 : 0 ≤ i
  · by_cases h1 : i < ms.length
    · obtain rfl : b = true := by rw [hb]; simp; omega
      clear hb
      go_enter Try.func17, Try.ntmps17
      go_wp2
      go_ret
      exact ⟨rfl, rfl⟩
    · obtain rfl : b = false := by rw [hb]; simp; omega
      clear hb
      go_enter Try.func17, Try.ntmps17
      go_wp2
      go_ret
      exact ⟨rfl, rfl⟩
  · obtain rfl : b = false := by rw [hb]; simp; omega
    clear hb
    go_enter Try.func17, Try.ntmps17
    go_wp2
    go_ret
    exact ⟨rfl, rfl⟩

/-- may somebody post, or be posted to? -/
def node (k : Int) : Bool := decide (0 ≤ k ∧ k < 64)

theorem clos_yes (k : Int) (w : World) (h : node k = true) : Calls Try.prog 15 #[.int .i64 k] w fun e w' => e = .returned (.bool false) ∧ w' = w := by
  have hk : 0 ≤ k ∧ k < 64 := of_decide_eq_true h
  obtain ⟨h0, h1⟩ := hk
  clear h
  go_enter Try.func15, Try.ntmps15
  go_wp2
  go_ret
  exact ⟨ret_bool (by simp; omega), rfl⟩
theorem clos_no (k : Int) (w : World) (h : node k = false) : Calls Try.prog 15 #[.int .i64 k] w fun e w' => e = .returned (.bool true) ∧ w' = w := by
  have hk : ¬ (0 ≤ k ∧ k < 64) := of_decide_eq_false h
  clear h
  by_cases h0 : k < 0
  · go_enter Try.func15, Try.ntmps15
    go_wp2
    go_ret
    exact ⟨rfl, rfl⟩
  · have h1 : 64 ≤ k := by omega
    clear hk
    go_enter Try.func15, Try.ntmps15
    go_wp2
    go_ret
    exact ⟨rfl, rfl⟩
theorem clos_any (k : Int) (w : World) : Calls Try.prog 15 #[.int .i64 k] w fun e w' => e = .returned (.bool (!node k)) ∧ w' = w := by
  cases h : node k
  · exact clos_no k w h
  · exact clos_yes k w h

/-- the first of two that may not. -/
def firstBad (f t : Int) : Int := if node f = true then (if node t = true then -1 else 1) else 0

theorem index_any (b : Nat) (f t : Int) (w : World) (h0 : w.cell? ⟨b, 0, none⟩ = some (.int .i64 f)) (h1 : w.cell? ⟨b, 1, none⟩ = some (.int .i64 t)) :
    Calls Try.prog 19 #[.slice (some ⟨b, 0, none⟩) 2 2, .func (.func 15) #[] #[]] w fun e w' => e = .returned (.int .i64 (firstBad f t)) ∧ w' = w := by
  go_enter Try.func19, Try.ntmps19
  go_wp2
  go_loop [8] (fun i => ∃ k : Nat, k ≤ 2 ∧ i = .int .i64 k ∧ (1 ≤ k → node f = true) ∧ (2 ≤ k → node t = true)) (fun i => 2 - (intOf i).toNat)
  case atStart => exact ⟨0, by omega, rfl, by omega, by omega⟩
  case round =>
    obtain ⟨k, hk, rfl, g0, g1⟩ := hrel
    rcases (by omega : k = 0 ∨ k = 1 ∨ k = 2) with rfl | rfl | rfl
    · clear g0 g1
      cases hf : node f
      · have HC := Lib.hid (clos_no f w hf)
        have HF := Lib.hid hf
        clear hf
        go_wp2_with (go_at_call 15; go_must (refine HC.out.mono ?_); rintro e w' ⟨rfl, rfl⟩)
        go_ret
        exact ⟨ret_int (by unfold firstBad; rw [HF.out]; rfl), rfl⟩
      · have HC := Lib.hid (clos_yes f w hf)
        have HF := Lib.hid hf
        clear hf
        go_wp2_with (go_at_call 15; go_must (refine HC.out.mono ?_); rintro e w' ⟨rfl, rfl⟩)
        go_round
        case rel => exact ⟨1, by omega, by go_num, by first | exact fun _ => HF.out | simp, by omega⟩
        case measure => simp [intOf]
    · have HF := Lib.hid (g0 (by omega))
      clear g0 g1
      cases ht : node t
      · have HC := Lib.hid (clos_no t w ht)
        have HT := Lib.hid ht
        clear ht
        go_wp2_with (go_at_call 15; go_must (refine HC.out.mono ?_); rintro e w' ⟨rfl, rfl⟩)
        go_ret
        exact ⟨ret_int (by unfold firstBad; rw [HF.out, HT.out]; rfl), rfl⟩
      · have HC := Lib.hid (clos_yes t w ht)
        have HT := Lib.hid ht
        clear ht
        go_wp2_with (go_at_call 15; go_must (refine HC.out.mono ?_); rintro e w' ⟨rfl, rfl⟩)
        go_round
        case rel => exact ⟨2, by omega, by go_num, by first | exact fun _ => HF.out | simp, by first | exact fun _ => HT.out | simp⟩
        case measure => simp [intOf]
    · have HF := Lib.hid (g0 (by omega))
      have HT := Lib.hid (g1 (by omega))
      clear g0 g1
      go_wp2
      go_ret
      exact ⟨ret_int (by unfold firstBad; rw [HF.out, HT.out]; rfl), rfl⟩

theorem contains_any (b : Nat) (f t : Int) (w : World) (h0 : w.cell? ⟨b, 0, none⟩ = some (.int .i64 f)) (h1 : w.cell? ⟨b, 1, none⟩ = some (.int .i64 t)) :
    Calls Try.prog 14 #[.slice (some ⟨b, 0, none⟩) 2 2, .func (.func 15) #[] #[]] w fun e w' => e = .returned (.bool (!(node f && node t))) ∧ w' = w := by
  have HI := Lib.hid (index_any b f t w h0 h1)
  have hb : decide (0 ≤ firstBad f t) = !(node f && node t) := by
    unfold firstBad
    cases node f <;> cases node t <;> simp
  have HB := Lib.hid hb
  clear hb h0 h1
  go_enter Try.func14, Try.ntmps14
  go_wp2_with (go_at_call 19; go_must (refine HI.out.mono ?_); rintro e w' ⟨rfl, rfl⟩)
  go_ret
  exact ⟨ret_bool HB.out, rfl⟩
end Go.Proofs.Ytodmhikmjcajnaa
