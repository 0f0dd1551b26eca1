/-
  Fetch, the document's answer: New.
-/
import Derived.Test.YthjgmnafbikihaaRd
set_option linter.unusedVariables false
set_option linter.unusedSimpArgs false
namespace Go.Proofs.Ythjgmnafbikihaa
open Go.RowKit Go.Maps Go.Sort

theorem results_t {fn : Func} {g u : Tmp} {ty : TypeId} (h : fn.results = #[.cell g ty, .tmp u]) (h48 : ty = 48) {tmps : Array Value} {b : Nat} {cs : Array Value} {w : World} (ht : tmps.getD g undef = .pointer (some ⟨b, 0, none⟩)) (hb : Blk w b 48 cs) (hs : cs.size = 4) :
    (results fn tmps).run Try.prog w = .ok (.tuple #[.agg cs, tmps.getD u undef]) w := by
  subst h48
  have hi : (Try.prog.info? 48).map (·.size) = some cs.size := by rw [hs]; kernel_rfl
  have hl : (loadVar 48 ⟨b, 0, none⟩).run Try.prog w = .ok (.agg cs) w := run_loadVar_row w b 48 48 cs (0, 0) _ hb Try.underlying48 rfl hi
  have ht' : tmps[g]?.getD undef = .pointer (some ⟨b, 0, none⟩) := by simpa using ht
  simp [results, h, ht', hl, asAddr]
theorem rnew_ok (base most budget : Int) (w : World) (h : newOk base most budget) :
    Calls Try.prog 15 #[.int .i64 base, .int .i64 most, .int .i64 budget] w fun e w' => e = .returned (.tuple #[tv base most budget (.slice none 0 0), .int .i64 0]) ∧ Below w.heap.size w w' := by
  obtain ⟨h1, h2, h3, h4, h5, h6⟩ := h
  go_enter Try.func15, Try.ntmps15
  go_wp2_with fail
  refine bodyPost_ret (results_t rfl rfl rfl (Blk.new _ _ _) rfl) rfl ?_
  exact ⟨rfl, (Below.refl _ _).alloc (Nat.le_refl _) _⟩
theorem rnew_not (base most budget : Int) (w : World) (h : ¬ newOk base most budget) :
    Calls Try.prog 15 #[.int .i64 base, .int .i64 most, .int .i64 budget] w fun e w' => e = .returned (.tuple #[tv 0 0 0 (.slice none 0 0), .int .i64 1]) ∧ Below w.heap.size w w' := by
  have hcase : base < 1 ∨ 100 < base ∨ most < base ∨ 1000 < most ∨ budget < 1 ∨ 20 < budget := by unfold newOk at h; omega
  have HC := Lib.hid hcase
  clear h hcase
  go_enter Try.func15, Try.ntmps15
  go_wp2_with fail
  all_goals first
    | (refine bodyPost_ret (results_t rfl rfl rfl (Blk.new _ _ _) rfl) rfl ?_
       exact ⟨rfl, (Below.refl _ _).alloc (Nat.le_refl _) _⟩)
    | (exfalso
       have := HC.out
       omega)
theorem new_not (base most budget : Int) (w : World) (h : ¬ newOk base most budget) :
    Calls Try.prog 9 #[.int .i64 base, .int .i64 most, .int .i64 budget] w fun e w' => e = .returned (.tuple #[.pointer none, .int .i64 1]) ∧ Below w.heap.size w w' := by
  have c1 := within_any base 1 100 w
  have c2 := within_any most base 1000 w
  have c3 := within_any budget 1 20 w
  have C1 := Lib.hid c1
  have C2 := Lib.hid c2
  have C3 := Lib.hid c3
  clear c1 c2 c3
  unfold newOk at h
  cases e1 : (decide ((1 : Int) ≤ base) && decide (base ≤ 100))
  · rw [e1] at C1
    clear h e1 C2 C3
    go_enter Try.func9, Try.ntmps9
    go_wp2_with fail
    refine C1.out.mono ?_
    rintro e w' ⟨rfl, rfl⟩
    go_wp2_with fail
    go_ret2
    exact ⟨rfl, Below.refl _ _⟩
  · rw [e1] at C1
    cases e2 : (decide (base ≤ most) && decide (most ≤ 1000))
    · rw [e2] at C2
      clear h e1 e2 C3
      go_enter Try.func9, Try.ntmps9
      go_wp2_with fail
      refine C1.out.mono ?_
      rintro e w' ⟨rfl, rfl⟩
      go_wp2_with fail
      refine C2.out.mono ?_
      rintro e w' ⟨rfl, rfl⟩
      go_wp2_with fail
      go_ret2
      exact ⟨rfl, Below.refl _ _⟩
    · rw [e2] at C2
      cases e3 : (decide ((1 : Int) ≤ budget) && decide (budget ≤ 20))
      · rw [e3] at C3
        clear h e1 e2 e3
        go_enter Try.func9, Try.ntmps9
        go_wp2_with fail
        refine C1.out.mono ?_
        rintro e w' ⟨rfl, rfl⟩
        go_wp2_with fail
        refine C2.out.mono ?_
        rintro e w' ⟨rfl, rfl⟩
        go_wp2_with fail
        refine C3.out.mono ?_
        rintro e w' ⟨rfl, rfl⟩
        go_wp2_with fail
        go_ret2
        exact ⟨rfl, Below.refl _ _⟩
      · exfalso
        simp only [Bool.and_eq_true, decide_eq_true_eq] at e1 e2 e3
        omega
end Go.Proofs.Ythjgmnafbikihaa
