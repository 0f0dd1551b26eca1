/-
  DiceOther: two numbers draw the same first number just if they are the same.
-/
import Derived.Test.YtggkndmmbkejgaaRows
import Derived.WalkKit
import Derived.ProofKit
import Derived.OpenShut
import Derived.Below
import Derived.ShutString
import Derived.Test.YtggkndmmbkejgaaDf
import Derived.Test.YtggkndmmbkejgaaInj
namespace Go.Proofs.Ytggkndmmbkejgaa.diceOther
open Go.ChangeShapes Go.WideShapes Go.ChangeAt Go.RowKit
open Go.ChangeMaps (open_string shut_string)
set_option linter.unusedVariables false      -- a walk need not use every 'w<i>' (that an integer argument fits its kind)

theorem own : ownKnob Try.prog.godebug = none := by kernel_rfl

theorem ret_bool {a b : Bool} (h : a = b) : Ending.returned (.bool a) = .returned (.bool b) := by rw [h]
theorem die_new2 (w : World) (o : Obj) (s : Int) : Die ((w.alloc o).alloc (.cells #[.int .u64 s] 43)) (w.heap.size + 1) s := by simpa using die_new (w.alloc o) s

theorem walk (a0 : Int) (a1 : Int) (a2 : Bool) (w0 : (Lit.int .u64 a0).wf = true) (w1 : (Lit.int .u64 a1).wf = true) (w : World) :
    Calls Try.prog 6 #[.int .u64 a0, .int .u64 a1, .bool a2] w fun e w' => e = .returned (.bool true) ∧ Below w.heap.size w w' := by
  have hb0 := bounds_u64 w0
  have hb1 := bounds_u64 w1
  have key : ∀ b : Int, (b = a0 ∨ b = a1) → Hid ((vl a0 == vl b) = (a0 == b)) := by
    intro b hb
    show (vl a0 == vl b) = (a0 == b)
    by_cases h : a0 = b
    · subst h; simp
    · have h2 : ¬ vl a0 = vl b := fun e => h (vl_inj a0 b (by omega) (by omega) (by rcases hb with rfl | rfl <;> omega) (by rcases hb with rfl | rfl <;> omega) e)
      rw [beq_eq_false_iff_ne.2 h, beq_eq_false_iff_ne.2 h2]
  clear hb0 hb1 w0 w1
  obtain ⟨b, hb, hk⟩ : ∃ b, b = (if a2 then a0 else a1) ∧ Hid ((vl a0 == vl b) = (a0 == b)) := by
    cases a2
    · exact ⟨a1, rfl, key _ (.inr rfl)⟩
    · exact ⟨a0, rfl, key _ (.inl rfl)⟩
  clear key
  cases a2
  all_goals
    simp at hb
    subst hb
    go_enter Try.func6, Try.ntmps6
    go_wp2_with (first | (go_at_call 8; go_must (refine (awake_any _).mono ?_); rintro e w1 ⟨rfl, hb1⟩))
    refine (new_any _ _).mono ?_
    rintro e w2 ⟨rfl, rfl⟩
    go_wp2_with fail
    refine (next_any _ _ _ (die_new _ _).1 (die_new _ _).2).mono ?_
    rintro e w2 ⟨rfl, rfl⟩
    go_wp2_with fail
    refine (new_any _ _).mono ?_
    rintro e w2 ⟨rfl, rfl⟩
    go_wp2_with fail
    refine (next_any _ _ _ (die_new2 _ _ _).1 (die_new2 _ _ _).2).mono ?_
    rintro e w2 ⟨rfl, rfl⟩
    go_wp2_with fail
    go_ret
    refine ⟨ret_bool ?_, (hb1.alloc hb1.size _).alloc (by have := hb1.size; simp; omega) _⟩
    have hk' := hk.out
    first | (rw [hk']; simp) | simp

set_option maxRecDepth 100000 in
theorem lifted (os : Os) (started : os.Started) (H : Type) (enc : TypeId × Value → H) :
    ReturnsInHanded {} Try.checked os 6 .any (Rows.diceOtherSpec.pre6 enc Try.prog Try.f6 Rows.diceOtherRow.domain false) (Rows.diceOtherSpec.post enc Try.prog Try.f6 false true false false) := by
  refine returnsInHanded_of_change (C := Try.checked) own started (by kernel_rfl) Try.func6
    (ChangeSpec.witness6 (enc := enc) (C := Try.checked) false ⟨#[], #[.int .u64 0, .int .u64 0, .bool false], []⟩ 8 (by kernel_rfl) (by kernel_rfl) (by kernel_rfl) (by kernel_rfl)) ?_
  intro W base args ds gs before hval0 hW hcnd _
  have hval : ∀ (j : Nat) t v, Try.f6.params[j]? = some t → args[j]? = some v → Value.okWide Try.prog W .any base t v := hval0
  have hW' := hW
  obtain ⟨p, q, hA0, hV, rfl, hfz, hnd⟩ := hW
  have hA : DataW.TrodAll enc Try.prog W 0 (fun _ => true) true Try.f6.params.toList args.toList ds p := hA0
  rw [Try.params6] at hA hval
  obtain ⟨v0, vs0, d0, ds0, p0, q0, hargs, rfl, rfl, h0, r0⟩ := trodAll_cons hA
  obtain ⟨v1, vs1, d1, ds1, p1, q1, rfl, rfl, rfl, h1, r1⟩ := trodAll_cons r0
  obtain ⟨v2, vs2, d2, ds2, p2, q2, rfl, rfl, rfl, h2, r2⟩ := trodAll_cons r1
  obtain ⟨rfl, rfl, rfl⟩ := trodAll_nil r2
  obtain rfl : args = #[v0, v1, v2] := by cases args; simp_all
  obtain ⟨rfl, rfl⟩ := trodVars_none hV
  obtain ⟨a0, rfl, rfl, rfl, w0⟩ := open_int Try.underlying22 (hval 0 22 v0 rfl rfl) h0
  obtain ⟨a1, rfl, rfl, rfl, w1⟩ := open_int Try.underlying22 (hval 1 22 v1 rfl rfl) h1
  obtain ⟨a2, rfl, rfl, rfl⟩ := open_bool Try.underlying4 (hval 2 4 v2 rfl rfl) h2
  clear hA0 hval0
  refine (walk a0 a1 a2 w0 w1 W).mono fun e W' ⟨he, hg⟩ => ?_
  subst he
  exact ⟨_, rfl, _, _, _, [], _, [], hW', trodAll_mk1 (shut_bool Try.underlying4 _), (trodAll_cons_mk (shut_int Try.underlying22 w0) (trodAll_cons_mk (shut_int Try.underlying22 w1) (trodAll_cons_mk (shut_bool Try.underlying4 _) trodAll_mk0))), rfl, hg.frame _, fun h => by cases h⟩

theorem over : Rows.diceOtherRow.holds Try.pinned (OpenSpec.ofChange Rows.diceOtherSpec) :=
  OpenClaim.holds_of_wide 6 Try.f6 rfl rfl rfl rfl rfl rfl rfl ⟨rfl, rfl, rfl, rfl, rfl⟩ rfl rfl rfl rfl rfl (by kernel_rfl) Try.func6 (by kernel_rfl)
    (of_decide_eq_true (by kernel_rfl)) (by unfold Func.isWrapper; first | (rw [if_pos (by decide +kernel)]; kernel_rfl) | (rw [if_neg (by decide +kernel)]; exact ⟨rfl, rfl⟩))
    (fun os started H enc _ => lifted os started H enc)

theorem proved : Rows.DiceOtherSaid :=
  over
#print axioms proved
end Go.Proofs.Ytggkndmmbkejgaa.diceOther
