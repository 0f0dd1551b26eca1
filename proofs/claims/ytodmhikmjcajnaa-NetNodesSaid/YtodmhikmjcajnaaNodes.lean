/-
  NetNodes: just such may post, and be posted to, as there may be.
-/
import Derived.Test.YtodmhikmjcajnaaRows
import Derived.WalkKit
import Derived.ProofKit
import Derived.OpenShut
import Derived.ShutString
import Derived.ChangeOld
import Derived.Below
import Derived.Test.YtodmhikmjcajnaaNi
namespace Go.Proofs.Ytodmhikmjcajnaa.netNodes
open Go.ChangeShapes Go.WideShapes Go.ChangeAt Go.RowKit
open Go.ChangeMaps (open_string shut_string)
set_option linter.unusedVariables false

theorem own : ownKnob Try.prog.godebug = none := by kernel_rfl
theorem laidOut : laidOutB Try.prog = true := by kernel_rfl

/-- WHAT THE WALK IS TOLD OF A SLICE OF INTEGERS THAT CAME IN: it is nil; or it leads to a row of 'cap' cells, the numbers 'zs' (the first 'len' are its elements, the rest its spare room), each fitting its kind. -/
def IsRow (k : IntKind) (w : World) (a : Option Addr) (len cap : Nat) (zs : List Int) : Prop :=
  (a = none ∧ len = 0 ∧ cap = 0 ∧ zs = []) ∨
  ∃ x, a = some x ∧ len ≤ cap ∧ cap ≤ maxLen ∧ zs.length = cap ∧ (∀ i, i < zs.length → w.cell? (x.add i) = some (.int k (zs.getD i 0))) ∧ ∀ n ∈ zs, (Lit.int k n).wf = true

set_option maxRecDepth 100000 in
set_option maxHeartbeats 800000 in
theorem walk (a0 : Int) (a1 : Int) (a2 : Option Addr) (len2 cap2 : Nat) (z2 : List Int) (w : World) (w0 : (Lit.int .i64 a0).wf = true) (w1 : (Lit.int .i64 a1).wf = true) (w2 : IsRow .u8 w a2 len2 cap2 z2) :
    Calls Try.prog 5 #[.int .i64 a0, .int .i64 a1, .slice a2 len2 cap2] w fun e w' => e = .returned (.bool true) ∧ Below w.heap.size w w' := by
  clear w0 w1
  obtain ⟨hr, hlm⟩ := row_bytes w2
  clear w2
  by_cases hbig : 50 < len2
  · clear hr
    go_enter Try.func5, Try.ntmps5
    go_wp2_with (first | (go_at_call 7; go_must (refine (awake_any _).mono ?_); rintro e w1 ⟨rfl, hb1⟩))
    go_ret
    exact ⟨rfl, hb1⟩
  · have hlen : len2 ≤ 50 := by omega
    clear hlm
    generalize rowOf z2 len2 = d at hr
    by_cases hmay : (node a0 && node a1) = true
    · have hn : (0 ≤ a0 ∧ a0 < 64) ∧ (0 ≤ a1 ∧ a1 < 64) := by simpa [node] using hmay
      obtain ⟨⟨h0, h1⟩, h2, h3⟩ := hn
      have HM := Lib.hid hmay
      clear hmay
      go_enter Try.func5, Try.ntmps5
      go_wp2_with (first | (go_at_call 7; go_must (refine (awake_any _).mono ?_); rintro e w1 ⟨rfl, hb1⟩))
      refine (new_ok 4 w1 (by omega) (by omega)).mono ?_
      rintro e w2 ⟨rfl, hnet, hB1⟩
      have hB2 : Below w.heap.size w w2 := hb1.trans (hB1.mono hb1.size)
      have hr2 := ((hr.below hb1).below (hB1.mono hb1.size)).more hB2.size
      go_wp2_with fail
      refine (post_ok w1.heap.size _ 4 0 [] _ hnet a0 a1 a2 len2 cap2 d hr2 hlen HM.out (by simp) (by simp)).mono ?_
      rintro e w3 ⟨rfl, S3, hnet3, hS3, hK3⟩
      have hSb3 : ∀ x, S3 x → w.heap.size ≤ x := fun x hx => by
        have hz := hb1.size
        have hz2 := hB1.size
        rcases hS3 x hx with h | h
        · have h' : x = w1.heap.size := h
          omega
        · have h1 := h.1; omega
      have hB3 := hK3.below hB2 (fun x hx => by have h' : x = w1.heap.size := hx; have := hb1.size; omega)
      go_wp2_with fail
      refine (take_any w1.heap.size S3 4 0 0 _ _ hnet3 (by simp) (by simp)).mono ?_
      rintro e w4 ⟨A, n, c, rfl, hr4, hn4, hc4, hnet4, hK4⟩
      have hB4 := hK4.below hB3 hSb3
      simp at hr4
      replace hnet4 : IsNet w4 w1.heap.size S3 4 0 [] := hnet4
      have hnet5 := hnet4.below ((Below.refl _ w4).alloc (Nat.le_refl _) (.cells #[.int .i64 a0, .int .i64 a1, .slice A n c] 31))
      have hB5 := hB4.alloc hB4.size (.cells #[.int .i64 a0, .int .i64 a1, .slice A n c] 31)
      have HO := Lib.hid (lost_any w1.heap.size S3 4 0 _ _ hnet5)
      have hcv : (convert 28 9 (.slice A n c)).run Try.prog (w4.alloc (.cells #[.int .i64 a0, .int .i64 a1, .slice A n c] 31)) = .ok (.string (strD d)) _ := conv_reads A n c d _ _ (hr4.alloc (Nat.le_refl _) (.cells #[.int .i64 a0, .int .i64 a1, .slice A n c] 31))
      have hcv2 : (convert 28 9 (.slice a2 len2 cap2)).run Try.prog (w4.alloc (.cells #[.int .i64 a0, .int .i64 a1, .slice A n c] 31)) = .ok (.string (strD d)) _ := conv_reads a2 len2 cap2 d _ _ (hr.below hB5)
      clear hnet hnet3 hnet4 hnet5 hr4 hn4 hc4 hB4 hK4 hK3 hS3 hB1 hb1 hB2 hr2 hr hB3
      go_wp2_with (first | (go_at_call 10; go_must (refine HO.out.mono ?_); rintro e w5 ⟨rfl, rfl⟩))
      go_ret
      exact ⟨rfl, hB5⟩
    · have hbad : (node a0 && node a1) = false := by simpa using hmay
      have hn : a0 < 0 ∨ (0 ≤ a0 ∧ 64 ≤ a0) ∨ (0 ≤ a0 ∧ a0 < 64 ∧ a1 < 0) ∨ (0 ≤ a0 ∧ a0 < 64 ∧ 0 ≤ a1 ∧ 64 ≤ a1) := by
        have : ¬ ((0 ≤ a0 ∧ a0 < 64) ∧ (0 ≤ a1 ∧ a1 < 64)) := by simpa [node] using hmay
        omega
      have HM := Lib.hid hbad
      clear hmay hbad
      rcases hn with h | ⟨h, h'⟩ | ⟨h, h', h''⟩ | ⟨h, h', h'', h3⟩
      all_goals
        go_enter Try.func5, Try.ntmps5
        go_wp2_with (first | (go_at_call 7; go_must (refine (awake_any _).mono ?_); rintro e w1 ⟨rfl, hb1⟩))
        refine (new_ok 4 w1 (by omega) (by omega)).mono ?_
        rintro e w2 ⟨rfl, hnet, hB1⟩
        have hB2 : Below w.heap.size w w2 := hb1.trans (hB1.mono hb1.size)
        go_wp2_with fail
        refine (post_bad w1.heap.size _ 4 0 [] _ hnet a0 a1 a2 len2 cap2 HM.out).mono ?_
        rintro e w3 ⟨rfl, hnet3, hB3⟩
        have hB4 := hB2.trans (hB3.mono hB2.size)
        go_wp2_with fail
        refine (take_no w1.heap.size _ 4 0 0 _ _ hnet3 (by simp)).mono ?_
        rintro e w4 ⟨rfl, hB5⟩
        have hB6 := hB4.trans (hB5.mono hB4.size)
        have hnet5 := (hnet3.below hB5).below ((Below.refl _ w4).alloc (Nat.le_refl _) (.cells #[.int .i64 0, .int .i64 0, .slice none 0 0] 31))
        have hB7 := hB6.alloc hB6.size (.cells #[.int .i64 0, .int .i64 0, .slice none 0 0] 31)
        have HO := Lib.hid (lost_any w1.heap.size _ 4 0 _ _ hnet5)
        clear hnet hnet3 hnet5 hB1 hb1 hB2 hB3 hB4 hB5 hB6 hr
        go_wp2_with (first | (go_at_call 10; go_must (refine HO.out.mono ?_); rintro e w5 ⟨rfl, rfl⟩))
        go_ret
        exact ⟨rfl, hB7⟩

set_option maxRecDepth 100000 in
theorem lifted (os : Os) (started : os.Started) (H : Type) (enc : TypeId × Value → H) :
    ReturnsInHanded {} Try.checked os 5 .any (Rows.netNodesSpec.pre6 enc Try.prog Try.f5 Rows.netNodesRow.domain false) (Rows.netNodesSpec.post enc Try.prog Try.f5 false true false false) := by
  refine returnsInHanded_of_change (C := Try.checked) own started (by kernel_rfl) Try.func5
    (ChangeSpec.witness6 (enc := enc) (C := Try.checked) false ⟨#[], #[.int .i64 0, .int .i64 0, .slice none 0 0], []⟩ 8 (by kernel_rfl) (by kernel_rfl) (by kernel_rfl) (by kernel_rfl)) ?_
  intro W base args ds gs before hval0 hW hcnd _
  have hval : ∀ (j : Nat) t v, Try.f5.params[j]? = some t → args[j]? = some v → Value.okWide Try.prog W .any base t v := hval0
  have hW' := hW
  obtain ⟨p, q, hA0, hV, rfl, hfz, hnd⟩ := hW
  have hA : DataW.TrodAll enc Try.prog W 0 (fun _ => true) true Try.f5.params.toList args.toList ds p := hA0
  rw [Try.params5] at hA hval
  obtain ⟨v0, vs0, d0, ds0, p0, q0, hargs, rfl, rfl, h0, r0⟩ := trodAll_cons hA
  obtain ⟨v1, vs1, d1, ds1, p1, q1, rfl, rfl, rfl, h1, r1⟩ := trodAll_cons r0
  obtain ⟨v2, vs2, d2, ds2, p2, q2, rfl, rfl, rfl, h2, r2⟩ := trodAll_cons r1
  obtain ⟨rfl, rfl, rfl⟩ := trodAll_nil r2
  obtain rfl : args = #[v0, v1, v2] := by cases args; simp_all
  obtain ⟨rfl, rfl⟩ := trodVars_none hV
  obtain ⟨a0, rfl, rfl, rfl, w0⟩ := open_int Try.underlying3 (hval 0 3 v0 rfl rfl) h0
  obtain ⟨a1, rfl, rfl, rfl, w1⟩ := open_int Try.underlying3 (hval 1 3 v1 rfl rfl) h1
  obtain ⟨a2, len2, cap2, rfl⟩ := okWide_slice Try.underlying28 (hval 2 28 v2 rfl rfl)
  have k2 := h2
  have lt2 : ∀ x ∈ p2, x.block < W.heap.size := by obtain ⟨m, hm⟩ := k2; exact DataW.trod_lt m _ _ _ hm
  obtain ⟨z2, w2⟩ : ∃ zs, IsRow .u8 W a2 len2 cap2 zs := by
    obtain ⟨fuel, hf⟩ := h2
    rcases open_ints Try.underlying28 Try.underlying5 (by kernel_rfl) hf with ⟨hcs, _⟩ | ⟨x, l, c, zs, hcs, _, hl, hm, hz, _, hcell, hwz⟩
    · simp [Value.cells] at hcs
      obtain ⟨rfl, rfl, rfl⟩ := hcs
      exact ⟨[], .inl ⟨rfl, rfl, rfl, rfl⟩⟩
    · simp [Value.cells] at hcs
      obtain ⟨rfl, rfl, rfl⟩ := hcs
      exact ⟨zs, .inr ⟨_, rfl, hl, hm, by simpa using hz, hcell, hwz⟩⟩
  clear hA0 hval0
  refine (walk a0 a1 a2 len2 cap2 z2 W w0 w1 w2).mono fun e W' ⟨he, bel⟩ => ?_
  subst he
  exact ⟨_, rfl, _, _, _, [], _, [], hW', trodAll_mk1 (shut_bool Try.underlying4 _), (trodAll_cons_mk (shut_int Try.underlying3 w0) (trodAll_cons_mk (shut_int Try.underlying3 w1) (trodAll_cons_mk (Below.trod laidOut (by kernel_rfl) (of_decide_eq_true (by kernel_rfl)) k2 bel lt2) trodAll_mk0))), rfl, bel.frame _, fun h => by cases h⟩

theorem over : Rows.netNodesRow.holds Try.pinned (OpenSpec.ofChange Rows.netNodesSpec) :=
  OpenClaim.holds_of_wide 5 Try.f5 rfl rfl rfl rfl rfl rfl rfl ⟨rfl, rfl, rfl, rfl, rfl⟩ rfl rfl rfl rfl rfl (by kernel_rfl) Try.func5 (by kernel_rfl)
    (of_decide_eq_true (by kernel_rfl)) (by unfold Func.isWrapper; first | (rw [if_pos (by decide +kernel)]; kernel_rfl) | (rw [if_neg (by decide +kernel)]; exact ⟨rfl, rfl⟩))
    (fun os started H enc _ => lifted os started H enc)

theorem proved : Rows.NetNodesSaid := over
#print axioms proved
end Go.Proofs.Ytodmhikmjcajnaa.netNodes
