/-
  NetFull: there is room for as many as were told; when one was taken there is room for one more.
-/
import Derived.Test.YtodmhikmjcajnaaRows
import Derived.WalkKit
import Derived.ProofKit
import Derived.OpenShut
import Derived.Below
import Derived.ShutString
import Derived.Test.YtodmhikmjcajnaaNi
import Derived.Test.YtodmhikmjcajnaaAnd
namespace Go.Proofs.Ytodmhikmjcajnaa.netFull
open Go.ChangeShapes Go.WideShapes Go.ChangeAt Go.RowKit
open Go.ChangeMaps (open_string shut_string)
set_option linter.unusedVariables false      -- a walk need not use every 'w<i>' (that an integer argument fits its kind)

theorem own : ownKnob Try.prog.godebug = none := by kernel_rfl

theorem take_last (N : Nat) (S : Nat → Prop) (room lost : Int) (q : Nat) (M : List Mail) (x : Mail) (w : World) (h : IsNet w N S room lost (M ++ [x])) (hM : M.length = q) (hq : q ≤ 900) :
    Calls Try.prog 11 #[.pointer (some ⟨N, 0, none⟩), .int .i64 q] w fun e w' => ∃ A n c, e = .returned (.tuple #[.agg #[.int .i64 x.f, .int .i64 x.t, .slice A n c], .bool true]) ∧ IsNet w' N S room lost M ∧ Keeps w w' S := by
  have hl : (M ++ [x]).length = q + 1 := by simp [hM]
  refine (take_any N S room lost q (M ++ [x]) w h (by omega) (by omega)).mono ?_
  rintro e w' ⟨A, n, c, rfl, _, _, _, hn, hk⟩
  have hx : (M ++ [x])[q]'(by omega) = x := by simp [hM]
  rw [hx]
  refine ⟨A, n, c, rfl, ?_, hk⟩
  have e1 : (M ++ [x]).take q ++ (M ++ [x]).drop (q + 1) = M := by
    subst hM
    rw [List.take_left, List.drop_of_length_le (by simp), List.append_nil]
  rwa [e1] at hn

set_option maxRecDepth 100000 in
set_option maxHeartbeats 1000000 in
theorem walk (a0 : Int) (a1 : Int) (w0 : (Lit.int .u8 a0).wf = true) (w1 : (Lit.int .u8 a1).wf = true) (w : World) :
    Calls Try.prog 6 #[.int .u8 a0, .int .u8 a1] w fun e w' => e = .returned (.bool true) ∧ Below w.heap.size w w' := by
  have hn0 := bounds_u8 w0
  have hn1 := bounds_u8 w1
  clear w0 w1
  obtain ⟨q, rfl⟩ := Int.eq_ofNat_of_zero_le hn0.1
  have hq : q ≤ 255 := by omega
  have ha0 : 0 ≤ a1 := hn1.1
  have ha1 : a1 ≤ 255 := hn1.2
  clear hn0 hn1
  obtain ⟨j, hj⟩ : ∃ j : Nat, a1 % ((q : Int) + 1) = (j : Int) := ⟨(a1 % ((q : Int) + 1)).toNat, by have := Int.emod_nonneg a1 (b := (q : Int) + 1) (by omega); omega⟩
  have hjq : j ≤ q := by have := Int.emod_lt_of_pos a1 (b := (q : Int) + 1) (by omega); omega
  have HJ := Lib.hid hj
  clear hj
  go_enter Try.func6, Try.ntmps6
  go_wp2_with (first | (go_at_call 7; go_must (refine (awake_any _).mono ?_); rintro e w1 ⟨rfl, hb1⟩))
  refine (new_ok ((q : Int) + 1) w1 (by omega) (by omega)).mono ?_
  rintro e w2 ⟨rfl, hnet, hB1⟩
  have hz1 := hb1.size
  have hB2 : Below w.heap.size w w2 := hb1.trans (hB1.mono hb1.size)
  have h0 : ∃ (S : Nat → Prop) (ms : List Mail), ms.length = 0 ∧ IsNet w2 w1.heap.size S ((q : Int) + 1) 0 ms ∧ ∀ x, S x → w.heap.size ≤ x := ⟨_, [], rfl, hnet, fun x hx => by have h' : x = w1.heap.size := hx; omega⟩
  have H0 := Lib.hid h0
  clear h0 hnet hB1 hb1
  go_wp2_with fail
  go_loopw [9] (fun iv wr => ∃ i : Nat, i ≤ q + 1 ∧ iv = .int .i64 i ∧ Hid (∃ (S : Nat → Prop) (ms : List Mail), ms.length = i ∧ IsNet wr w1.heap.size S ((q : Int) + 1) 0 ms ∧ ∀ x, S x → w.heap.size ≤ x) ∧ Below w.heap.size w wr)
    (fun iv _ => q + 1 - (intOf iv).toNat)
  case atStart => exact ⟨0, Nat.zero_le _, rfl, H0, hB2⟩
  case round =>
    clear H0 hB2
    obtain ⟨i, hi, rfl, H, hB⟩ := hrel
    obtain ⟨S, ms, hml, hnet, hS⟩ := H.out
    clear H
    by_cases hlt : i < q + 1
    · obtain ⟨r, hr, hr64⟩ := and63 i (by omega)
      have HP := Lib.hid (post_ok w1.heap.size S ((q : Int) + 1) 0 ms wr hnet r 0 none 0 0 [] Reads.none_ (by omega) (node_nat r hr64) (by omega) (by omega))
      have HM := Lib.hid hml
      clear hml hnet hr64
      go_wp2_with fail
      refine HP.out.mono ?_
      rintro e w3 ⟨rfl, S3, hnet3, hS3, hK3⟩
      have hB3 := hK3.below hB hS
      have R : Hid (∃ (S : Nat → Prop) (ms : List Mail), ms.length = i + 1 ∧ IsNet w3 w1.heap.size S ((q : Int) + 1) 0 ms ∧ ∀ x, S x → w.heap.size ≤ x) := by
        refine ⟨S3, _, ?_, hnet3, fun x hx => ?_⟩
        · rw [List.length_append, HM.out]; rfl
        · have := hB.size
          rcases hS3 x hx with h | h
          · exact hS x h
          · omega
      clear hnet3 hS3 hK3 hB HP hr
      go_wp2_with fail
      go_roundw
      case rel => exact ⟨i + 1, by omega, by go_num, R, hB3⟩
      case measure => simp [intOf]; omega
    · obtain rfl : i = q + 1 := by omega
      have HM := Lib.hid hml
      clear hml
      go_wp2_with fail
      refine (post_full w1.heap.size S ((q : Int) + 1) 0 ms wr hnet 0 0 none 0 0 rfl (by rw [HM.out]; omega) (by omega) (by omega)).mono ?_
      rintro e w3 ⟨rfl, hnet3, hK3⟩
      have hB3 := hK3.below hB hS
      clear hnet hK3 hB
      go_wp2_with fail
      have hjm : j < ms.length := by rw [HM.out]; omega
      rw [HJ.out]
      refine (take_any w1.heap.size S ((q : Int) + 1) (0 + 1) j ms _ hnet3 hjm (by rw [HM.out]; omega)).mono ?_
      rintro e w4 ⟨A, n, c, rfl, -, -, -, hnet4, hK4⟩
      have hB4 := hK4.below hB3 hS
      have hM1 : (ms.take j ++ ms.drop (j + 1)).length = q := by rw [List.length_append, List.length_take, List.length_drop, HM.out]; omega
      generalize ms.take j ++ ms.drop (j + 1) = M1 at hnet4 hM1
      generalize ms[j].f = f1
      generalize ms[j].t = t1
      try clear hjm
      have HM1 := Lib.hid hM1
      have hnet5 := hnet4.below ((Below.refl _ w4).alloc (Nat.le_refl _) (.cells #[.int .i64 f1, .int .i64 t1, .slice A n c] 31))
      have hB5 := hB4.alloc hB4.size (.cells #[.int .i64 f1, .int .i64 t1, .slice A n c] 31)
      clear hnet3 hnet4 hK4 hB3 hB4 hM1
      go_wp2_with fail
      refine (post_ok w1.heap.size S ((q : Int) + 1) (0 + 1) M1 _ hnet5 0 5 none 0 0 [] Reads.none_ (by omega) rfl (by rw [HM1.out]; omega) (by rw [HM1.out]; omega)).mono ?_
      rintro e w6 ⟨rfl, S6, hnet6, hS6, hK6⟩
      have hB6 := hK6.below hB5 hS
      have hS6' : ∀ x, S6 x → w.heap.size ≤ x := fun x hx => by
        have := hB5.size
        rcases hS6 x hx with h | h
        · exact hS x h
        · omega
      clear hnet5 hB5 hK6 hS6
      go_wp2_with fail
      refine (post_full w1.heap.size S6 ((q : Int) + 1) (0 + 1) _ _ hnet6 0 0 none 0 0 rfl (by rw [List.length_append, HM1.out]; simp) (by omega) (by omega)).mono ?_
      rintro e w7 ⟨rfl, hnet7, hK7⟩
      have hB7 := hK7.below hB6 hS6'
      clear hnet6 hB6 hK7
      go_wp2_with fail
      refine (take_last w1.heap.size S6 ((q : Int) + 1) (0 + 1 + 1) q M1 ⟨0, 5, []⟩ _ hnet7 HM1.out (by omega)).mono ?_
      rintro e w8 ⟨A8, n8, c8, rfl, hnet8, hK8⟩
      have hB8 := hK8.below hB7 hS6'
      have hnet9 := hnet8.below ((Below.refl _ w8).alloc (Nat.le_refl _) (.cells #[.int .i64 0, .int .i64 5, .slice A8 n8 c8] 31))
      have hB9 := hB8.alloc hB8.size (.cells #[.int .i64 0, .int .i64 5, .slice A8 n8 c8] 31)
      have HO := Lib.hid (lost_any w1.heap.size S6 ((q : Int) + 1) (0 + 1 + 1) M1 _ hnet9)
      have HL0 := len_any w1.heap.size S6 ((q : Int) + 1) (0 + 1 + 1) M1 _ hnet9
      rw [HM1.out] at HL0
      have HL := Lib.hid HL0
      clear hnet7 hB7 hK8 hnet8 hnet9 hB8 HL0
      go_wp2_with fail
      refine HO.out.mono ?_
      rintro e w10 ⟨rfl, rfl⟩
      go_wp2_with fail
      refine HL.out.mono ?_
      rintro e w10 ⟨rfl, rfl⟩
      go_wp2_with fail
      go_ret
      exact ⟨ret_bool (by simp), hB9⟩

set_option maxRecDepth 100000 in
theorem lifted (os : Os) (started : os.Started) (H : Type) (enc : TypeId × Value → H) :
    ReturnsInHanded {} Try.checked os 6 .any (Rows.netFullSpec.pre6 enc Try.prog Try.f6 Rows.netFullRow.domain false) (Rows.netFullSpec.post enc Try.prog Try.f6 false true false false) := by
  refine returnsInHanded_of_change (C := Try.checked) own started (by kernel_rfl) Try.func6
    (ChangeSpec.witness6 (enc := enc) (C := Try.checked) false ⟨#[], #[.int .u8 0, .int .u8 0], []⟩ 8 (by kernel_rfl) (by kernel_rfl) (by kernel_rfl) (by kernel_rfl)) ?_
  intro W base args ds gs before hval0 hW hcnd _
  have hval : ∀ (j : Nat) t v, Try.f6.params[j]? = some t → args[j]? = some v → Value.okWide Try.prog W .any base t v := hval0
  have hW' := hW
  obtain ⟨p, q, hA0, hV, rfl, hfz, hnd⟩ := hW
  have hA : DataW.TrodAll enc Try.prog W 0 (fun _ => true) true Try.f6.params.toList args.toList ds p := hA0
  rw [Try.params6] at hA hval
  obtain ⟨v0, vs0, d0, ds0, p0, q0, hargs, rfl, rfl, h0, r0⟩ := trodAll_cons hA
  obtain ⟨v1, vs1, d1, ds1, p1, q1, rfl, rfl, rfl, h1, r1⟩ := trodAll_cons r0
  obtain ⟨rfl, rfl, rfl⟩ := trodAll_nil r1
  obtain rfl : args = #[v0, v1] := by cases args; simp_all
  obtain ⟨rfl, rfl⟩ := trodVars_none hV
  obtain ⟨a0, rfl, rfl, rfl, w0⟩ := open_int Try.underlying5 (hval 0 5 v0 rfl rfl) h0
  obtain ⟨a1, rfl, rfl, rfl, w1⟩ := open_int Try.underlying5 (hval 1 5 v1 rfl rfl) h1
  clear hA0 hval0
  refine (walk a0 a1 w0 w1 W).mono fun e W' ⟨he, hg⟩ => ?_
  subst he
  exact ⟨_, rfl, _, _, _, [], _, [], hW', trodAll_mk1 (shut_bool Try.underlying4 _), (trodAll_cons_mk (shut_int Try.underlying5 w0) (trodAll_cons_mk (shut_int Try.underlying5 w1) trodAll_mk0)), rfl, hg.frame _, fun h => by cases h⟩

theorem over : Rows.netFullRow.holds Try.pinned (OpenSpec.ofChange Rows.netFullSpec) :=
  OpenClaim.holds_of_wide 6 Try.f6 rfl rfl rfl rfl rfl rfl rfl ⟨rfl, rfl, rfl, rfl, rfl⟩ rfl rfl rfl rfl rfl (by kernel_rfl) Try.func6 (by kernel_rfl)
    (of_decide_eq_true (by kernel_rfl)) (by unfold Func.isWrapper; first | (rw [if_pos (by decide +kernel)]; kernel_rfl) | (rw [if_neg (by decide +kernel)]; exact ⟨rfl, rfl⟩))
    (fun os started H enc _ => lifted os started H enc)

theorem proved : Rows.NetFullSaid :=
  over
#print axioms proved
end Go.Proofs.Ytodmhikmjcajnaa.netFull
