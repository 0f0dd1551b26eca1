/-
  Net: Copy.
-/
import Derived.Test.YtodmhikmjcajnaaNf
namespace Go.Proofs.Ytodmhikmjcajnaa
open Go.RowKit

theorem copy_no (N : Nat) (S : Nat → Prop) (room lost i : Int) (ms : List Mail) (w : World) (h : IsNet w N S room lost ms) (hi : ¬ (0 ≤ i ∧ i < ms.length)) :
    Calls Try.prog 13 #[.pointer (some ⟨N, 0, none⟩), .int .i64 i] w fun e w' => e = .returned (.bool false) ∧ w' = w := by
  have HT := Lib.hid (there_any N S room lost i ms _ h false (by simp; omega))
  clear h hi
  go_enter Try.func13, Try.ntmps13
  go_wp2_with (go_at_call 17; go_must (refine HT.out.mono ?_); rintro e w' ⟨rfl, rfl⟩)
  go_ret
  exact ⟨rfl, rfl⟩

theorem copy_ok (N : Nat) (S : Nat → Prop) (room lost : Int) (i : Nat) (ms : List Mail) (w : World) (h : IsNet w N S room lost ms) (hi : i < ms.length) (hb : (node ms[i].f && node ms[i].t) = true) (hroom : ms.length < room) (hms : ms.length ≤ 1000) :
    Calls Try.prog 13 #[.pointer (some ⟨N, 0, none⟩), .int .i64 i] w fun e w' => e = .returned (.bool true) ∧
      ∃ S', IsNet w' N S' room lost (ms ++ [ms[i]]) ∧ (∀ x, S' x → S x ∨ (w.heap.size ≤ x ∧ x < w'.heap.size)) ∧ Keeps w w' S := by
  have HT := Lib.hid (there_any N S room lost i ms _ h true (by simp; omega))
  obtain ⟨_, lv, es, hS, hk, hrow, hes⟩ := h.parts
  subst hes
  have hil : i < es.length := by simpa using hi
  have hmi : (es.map Ent.mail)[i] = es[i].mail := by simp
  rw [hmi] at hb ⊢
  obtain ⟨m, hem⟩ : ∃ m, es.length = m + 1 := ⟨es.length - 1, by omega⟩
  have hown := hrow.own
  rw [hem] at hown
  obtain ⟨g, cap, rfl⟩ := own_form3 hown
  have cN : w.cell? ⟨N, 2, none⟩ = some (.slice (some ⟨g, 0, none⟩) (m + 1) cap) := hk.cell 2
  have hent := hrow.ents es[i] (List.getElem_mem hil)
  have d0 : w.cell? ⟨g, i * 3, none⟩ = some (.int .i64 es[i].f) := (hown.cellAt (i * 3 + 0) (by omega)).trans (flat_get es i 0 hil (by omega))
  have d1 : w.cell? ⟨g, i * 3 + 1, none⟩ = some (.int .i64 es[i].t) := (hown.cellAt (i * 3 + 1) (by omega)).trans (flat_get es i 1 hil (by omega))
  have d2 : w.cell? ⟨g, i * 3 + 2, none⟩ = some (.slice es[i].A es[i].n es[i].c) := (hown.cellAt (i * 3 + 2) (by omega)).trans (flat_get es i 2 hil (by omega))
  have HP := Lib.hid (post_ok N S room lost (es.map Ent.mail) w h es[i].f es[i].t es[i].A es[i].n es[i].c es[i].d hent.reads hent.small hb hroom hms)
  have him : i < m + 1 := by omega
  clear hem hi hmi hrow hk hent hown hb hroom hms h
  go_enter Try.func13, Try.ntmps13
  go_wp2_with (first | (go_at_call 17; go_must (refine HT.out.mono ?_); rintro e w' ⟨rfl, rfl⟩) | (go_at_call 9; go_must (refine HP.out.mono ?_); rintro e w' ⟨rfl, R⟩))
  go_ret
  exact ⟨rfl, R⟩
end Go.Proofs.Ytodmhikmjcajnaa
