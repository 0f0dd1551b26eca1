/-
  Net: Clone of bytes.
-/
import Derived.Test.YtodmhikmjcajnaaNb
import Derived.WalkSpells
import Derived.Lib.LazyBuf
namespace Go.Proofs.Ytodmhikmjcajnaa
open Go.RowKit

theorem info5 : (Try.prog.info? 5).map (fun i => (i.zero, i.size, i.bytes)) = some (some (.int .u8 0), 1, 1) := by kernel_rfl

theorem clone_any (A : Option Addr) (n c : Nat) (d : List Int) (w : World) (h : Reads w w.heap.size 1 A n (bytes d)) (hn : n ≤ 1000) :
    Calls Try.prog 16 #[.slice A n c] w fun e w' => ∃ A' c', e = .returned (.slice A' n c') ∧ Reads w' w'.heap.size 1 A' n (bytes d) ∧ (∀ a, A' = some a → w.heap.size ≤ a.block) ∧ n ≤ c' ∧ Below w.heap.size w w' := by
  obtain ⟨i0, hi, hz0, hz1, hz2⟩ := info_parts info5
  cases A with
  | none =>
    have h0 : n = 0 := by
      rcases Nat.eq_zero_or_pos n with h0 | h0
      · exact h0
      · obtain ⟨ad, e, _⟩ := h.2 h0; cases e
    subst h0
    have hd : bytes d = [] := List.eq_nil_of_length_eq_zero (by simpa using h.1)
    have HD := Lib.hid hd
    clear h hd hn
    have he : ∀ w : World, (binOp .eql 28 (.slice none 0 c) (.slice none 0 0)).run Try.prog w = .ok (.bool true) w := fun w => Lib.run_eql_slice_nil w 28 5 none 0 c 0 0 Try.underlying28
    go_enter Try.func16, Try.ntmps16
    go_wp2
    go_ret
    exact ⟨none, 0, rfl, by rw [HD.out]; exact Reads.none_, (fun a e => by cases e), Nat.le_refl _, Below.refl _ _⟩
  | some a =>
    have he : ∀ w : World, (binOp .eql 28 (.slice (some a) n c) (.slice none 0 0)).run Try.prog w = .ok (.bool false) w := fun w => Lib.run_eql_slice_nil w 28 5 (some a) n c 0 0 Try.underlying28
    have hown : (w.alloc (.cells #[] 5)).ownsRow w.heap.size 5 1 (.slice (some ⟨w.heap.size, 0, none⟩) 0 0) 0 [] := World.ownsRow_made w #[] 0 (Nat.le_refl _) (by unfold maxLen; omega) rfl
    have hr := h.alloc (Nat.le_refl _) (.cells #[] 5)
    go_enter Try.func16, Try.ntmps16
    go_wp2_with (at_builtin; go_must (refine wpList_append_any _ rfl (.tmp 5) (.tmp 6) _ rfl w.heap.size 5 i0 _ 1 1 Try.underlying28 hi hz0 hz1 hz2 rfl (by omega) (.slice (some ⟨w.heap.size, 0, none⟩) 0 0) 0 [] rfl hown w.heap.size (some a) n c (bytes d) rfl hr (bytes_one d) ?c3 ?c4 ?c5 ?_))
    case c3 => unfold maxLen; omega
    case c4 => omega
    case c5 => simp
    intro v1 w1 ho hg hat
    have R : ∃ A' c', v1 = .slice A' n c' ∧ Reads w1 w1.heap.size 1 A' n (bytes d) ∧ (∀ a, A' = some a → w.heap.size ≤ a.block) ∧ n ≤ c' ∧ Below w.heap.size w w1 := by
      have hB : Below w.heap.size w w1 := ((Below.refl _ w).alloc (Nat.le_refl _) _).grown hg (by simp) (fun k e => by simp [Value.ownBlock] at e; omega)
      try simp only [Nat.zero_add, List.nil_append] at ho
      rcases ho.2 with ⟨rfl, h0⟩ | ⟨g, cap, cur, rfl, hge, _, hnc, _⟩
      · subst h0
        exact ⟨none, 0, rfl, Reads.of_own ho, (fun a e => by cases e), Nat.le_refl _, hB⟩
      · exact ⟨_, cap, rfl, Reads.of_own ho, fun a e => by injection e with e; subst e; exact hge, hnc, hB⟩
    clear ho hg hat
    obtain ⟨A', c', rfl, hr', hb', hnc, hB⟩ := R
    go_wp2
    go_ret
    exact ⟨A', c', rfl, hr', hb', hnc, hB⟩
end Go.Proofs.Ytodmhikmjcajnaa
