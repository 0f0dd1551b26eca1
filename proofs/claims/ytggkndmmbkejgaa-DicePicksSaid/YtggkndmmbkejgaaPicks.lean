/-
  DicePicks: as many are picked as are asked for, or there are, each from another place; what is handed in stays.
-/
import Derived.Test.YtggkndmmbkejgaaRows
import Derived.WalkKit
import Derived.ProofKit
import Derived.OpenShut
import Derived.Below
import Derived.ShutString
import Derived.Test.YtggkndmmbkejgaaDh
namespace Go.Proofs.Ytggkndmmbkejgaa.dicePicks
open Go.ChangeShapes Go.WideShapes Go.ChangeAt Go.RowKit
open Go.ChangeMaps (open_string shut_string)
set_option linter.unusedVariables false      -- a walk need not use every 'w<i>' (that an integer argument fits its kind)

theorem own : ownKnob Try.prog.godebug = none := by kernel_rfl

theorem pick_mem_ (s : Int) (l : List Int) (many : Int) : ∀ p ∈ (Dp.pick nx vl s l many).2, p ∈ l := Dp.pick_mem nx vl s l many
theorem pick_nodup_ (s : Int) (l : List Int) (many : Int) (h : l.Nodup) : (Dp.pick nx vl s l many).2.Nodup := Dp.pick_nodup nx vl s l many h
theorem own_base4 {w : World} {base base' n : Nat} {v : Value} {xs : List Value} (h : w.ownsRow base 4 1 v n xs) (hb : base' ≤ base) : w.ownsRow base' 4 1 v n xs := by
  refine ⟨h.1, ?_⟩
  rcases h.2 with h' | ⟨g, cap, cur, hv, hg, r⟩
  · exact .inl h'
  · exact .inr ⟨g, cap, cur, hv, by omega, r⟩

set_option maxRecDepth 100000 in
set_option maxHeartbeats 1000000 in
theorem walk (a0 : Int) (a1 : Int) (a2 : Int) (_w0 : (Lit.int .u64 a0).wf = true) (w1 : (Lit.int .u8 a1).wf = true) (w2 : (Lit.int .i64 a2).wf = true) (w : World) :
    Calls Try.prog 4 #[.int .u64 a0, .int .u8 a1, .int .i64 a2] w fun e w' => e = .returned (.bool true) ∧ Below w.heap.size w w' := by
  clear _w0
  have hn := bounds_u8 w1
  clear w1 w2
  obtain ⟨hn0, hn1⟩ := hn
  obtain ⟨k, hk⟩ : ∃ k : Nat, a1 % 40 = (k : Int) := ⟨(a1 % 40).toNat, by omega⟩
  have hk40 : k < 40 := by omega
  obtain ⟨i0, hi, hz0, hz1, hz2⟩ := info_parts Try.info3
  have hmk : ∀ w : World, (Instr.makeSlice 37 (.int .i64 40) (.int .i64 40)).run Try.prog w = .ok (.slice (some ⟨w.heap.size, 0, none⟩) 40 40) (w.alloc (.cells (falses 40) 4)) := make_bools 40 (by omega)
  go_enter Try.func4, Try.ntmps4
  go_wp2_with (first | (go_at_call 8; go_must (refine (awake_any _).mono ?_); rintro e w1 ⟨rfl, hb1⟩))
  clear hk hn0 hn1
  have hO : w1.ownsRow w1.heap.size 3 1 (.slice none 0 0) 0 (ints (mults 7 0)) := World.ownsRow_nil _ _ _ _
  go_loopw [9, 10] (fun lv iv wr => ∃ i : Nat, i ≤ k ∧ iv = .int .i64 i ∧ wr.ownsRow w1.heap.size 3 1 lv i (ints (mults 7 i)) ∧ Below w1.heap.size w1 wr)
    (fun _ iv _ => k - (intOf iv).toNat)
  case atStart => exact ⟨0, Nat.zero_le _, rfl, hO, Below.refl _ _⟩
  case round =>
    clear hO
    obtain ⟨i, hik, rfl, hO, hB⟩ := hrel
    by_cases hlt : i < k
    · go_wp2_with (at_builtin; go_must (refine wpList_append_any _ rfl (.tmp 27) (.tmp 30) _ rfl w1.heap.size 3 i0 _ 1 8 Try.underlying23 hi hz0 hz1 hz2 rfl (by omega) u9 i (ints (mults 7 i)) rfl (hO.alloc _) (wr.heap.size + 1) (some ⟨wr.heap.size, 0, none⟩) 1 1 [.int .i64 (7 * (i : Int))] rfl (reads_one _ _ _) (one_cell _) ?c3 ?c4 ?c5 ?_))
      case c3 => unfold maxLen; omega
      case c4 => omega
      case c5 => have := hB.size; simp; omega
      intro v3 w3 ho3 hg3 _
      have R : w3.ownsRow w1.heap.size 3 1 v3 (i + 1) (ints (mults 7 (i + 1))) ∧ Below w1.heap.size w1 w3 := by
        refine ⟨by rw [mults_succ]; simpa [ints] using ho3, ?_⟩
        exact (hB.alloc hB.size _).grown hg3 (by have := hB.size; simp; omega) (fun x e => (hO.lt x e).1)
      clear ho3 hg3 hO hB
      go_wp2
      go_roundw
      case rel => exact ⟨i + 1, by omega, by go_num, R.1, R.2⟩
      case measure => simp [intOf]; omega
    · obtain rfl : i = k := by omega
      have hb1s := hb1.size
      have hBs := hB.size
      obtain ⟨A9, c9, rfl⟩ := own_slice hO
      go_wp2_with fail
      refine (new_any _ _).mono ?_
      rintro e w3 ⟨rfl, rfl⟩
      go_wp2_with fail
      refine (pick_any wr.heap.size a0 a2 A9 i c9 (mults 7 i) _ (die_new wr a0) (isl_own (hO.alloc _) (by omega))).mono ?_
      rintro e w4 ⟨v, rfl, hP, _, hg4⟩
      have hPm := pick_mem_ a0 (mults 7 i) a2
      have hPn := pick_nodup_ a0 (mults 7 i) a2 (mults_nodup (by omega) i)
      have hw : (Dp.want (mults 7 i) a2 : Int) = min (max a2 0) (i : Int) := by have := mults_length 7 i; unfold Dp.want; omega
      generalize (Dp.pick nx vl a0 (mults 7 i) a2).2 = P at hP hPm hPn
      generalize Dp.want (mults 7 i) a2 = m at hP hw
      obtain ⟨A, c, rfl⟩ := own_slice hP
      have hO4 := (hO.alloc (.cells #[.int .u64 a0] 43)).kept hg4 (.inr (fun e => by have := (hO.lt _ e).2; omega))
      have hB4 : Below w.heap.size w w4 := below_of_grown ((hb1.trans (hB.mono hb1s)).alloc (by omega) _) hg4 (by omega)
      have h41 : w1.heap.size ≤ w4.heap.size := by have := hg4.size; simp at this; omega
      have hP4 := own_base hP (base' := w1.heap.size) (by simp; omega)
      have HPm := Lib.hid hPm
      have HPn := Lib.hid hPn
      have HO4 := Lib.hid hO4
      have HB4 := Lib.hid hB4
      have HP4 := Lib.hid hP4
      clear hP hg4 hO hB hPm hPn hO4 hB4 hP4
      have hcase : (a2 < 0 ∧ (m : Int) ≤ 0) ∨ (0 ≤ a2 ∧ (i : Int) < a2 ∧ (m : Int) ≤ i ∧ (i : Int) ≤ m) ∨ (0 ≤ a2 ∧ a2 ≤ (i : Int) ∧ (m : Int) ≤ a2 ∧ a2 ≤ (m : Int)) := by omega
      have hmi : m ≤ i := by omega
      clear hw
      rcases hcase with ⟨g1, g2⟩ | ⟨g1, g2, g3, g4⟩ | ⟨g1, g2, g3, g4⟩
      all_goals
        first
          | (have e1 : ((m : Int) != 0) = false := by simp; omega
             have e2 : decide ((i : Int) < 0) = false := by simp)
          | (have e1 : ((m : Int) != (i : Int)) = false := by simp; omega
             have e2 : decide (a2 < 0) = false := by simp; omega)
          | (have e1 : ((m : Int) != a2) = false := by simp; omega
             have e2 : decide (a2 < 0) = false := by simp; omega
             have e3 : decide ((i : Int) < a2) = false := by simp; omega)
        go_wp2_with fail
        have hM0 : Met (w4.alloc (.cells (falses 40) 4)) w1.heap.size 7 A c m w4.heap.size 40 P 0 := ⟨HP4.out.alloc _, own_base4 (falses_own 40 (by omega) 7 w4) h41⟩
        have hO5 := HO4.out.alloc (.cells (falses 40) 4)
        have hB5 := HB4.out.alloc HB4.out.size (.cells (falses 40) 4)
        go_loopw [14] (fun jv wi => ∃ j : Nat, j ≤ m ∧ jv = .int .i64 j ∧ Met wi w1.heap.size 7 A c m w4.heap.size 40 P j ∧ wi.ownsRow w1.heap.size 3 1 (.slice A9 i c9) i (ints (mults 7 i)) ∧ Below w.heap.size w wi)
          (fun jv _ => m - (intOf jv).toNat)
        case atStart => exact ⟨0, Nat.zero_le _, rfl, hM0, hO5, hB5⟩
        case round =>
          clear hM0 hO5 hB5
          obtain ⟨j, hj, rfl, hM, hO5, hB5⟩ := hrel
          by_cases hjm : j < m
          · first
            | (exfalso; omega)
            | (obtain ⟨gx, q, rfl, hq, hp, hcx, hcs, hfs, hM', hgs⟩ := hM.at_ hjm HPn.out HPm.out (by omega) (by omega)
               have hO6 := hO5.kept hgs (own_type_ne hO5 hM.seen (by decide))
               have hB6 := below_of_grown hB5 hgs (by omega)
               have hM1 := Lib.hid hM'
               clear hM' hM hgs hO5 hB5
               generalize P.getD j 0 = p at hp hcx
               have hp0 : 0 ≤ p := by omega
               have hpm : p % 7 = 0 := by omega
               have hpq : p / 7 = (q : Int) := by omega
               clear hp
               have hq40 : q < 40 := by omega
               go_wp2_with fail
               go_roundw
               case rel => exact ⟨j + 1, by omega, by go_num, hM1.out, hO6, hB6⟩
               case measure => simp [intOf]; omega)
          · obtain rfl : j = m := by omega
            have HO5 := Lib.hid hO5
            have HB5 := Lib.hid hB5
            clear hM hO5 hB5
            go_wp2_with fail
            go_loopw [15] (fun tv wi => ∃ t : Nat, t ≤ i ∧ tv = .int .i64 t ∧ wi.ownsRow w1.heap.size 3 1 (.slice A9 i c9) i (ints (mults 7 i)) ∧ Below w.heap.size w wi)
              (fun tv _ => i - (intOf tv).toNat)
            case atStart => exact ⟨0, Nat.zero_le _, rfl, HO5.out, HB5.out⟩
            case round =>
              obtain ⟨t, ht, rfl, hO7, hB7⟩ := hrel
              by_cases hti : t < i
              · obtain ⟨g9, c9', e9⟩ := own_form hO7 (by omega)
                injection e9 with e9
                subst e9
                have hct := own_cell hO7 hti
                rw [mults_getD 7 hti] at hct
                go_wp2_with fail
                go_roundw
                case rel => exact ⟨t + 1, by omega, by go_num, hO7, hB7⟩
                case measure => simp [intOf]; omega
              · obtain rfl : t = i := by omega
                go_wp2_with fail
                go_ret
                exact ⟨rfl, hB7⟩

set_option maxRecDepth 100000 in
theorem lifted (os : Os) (started : os.Started) (H : Type) (enc : TypeId × Value → H) :
    ReturnsInHanded {} Try.checked os 4 .any (Rows.dicePicksSpec.pre6 enc Try.prog Try.f4 Rows.dicePicksRow.domain false) (Rows.dicePicksSpec.post enc Try.prog Try.f4 false true false false) := by
  refine returnsInHanded_of_change (C := Try.checked) own started (by kernel_rfl) Try.func4
    (ChangeSpec.witness6 (enc := enc) (C := Try.checked) false ⟨#[], #[.int .u64 0, .int .u8 0, .int .i64 0], []⟩ 8 (by kernel_rfl) (by kernel_rfl) (by kernel_rfl) (by kernel_rfl)) ?_
  intro W base args ds gs before hval0 hW hcnd _
  have hval : ∀ (j : Nat) t v, Try.f4.params[j]? = some t → args[j]? = some v → Value.okWide Try.prog W .any base t v := hval0
  have hW' := hW
  obtain ⟨p, q, hA0, hV, rfl, hfz, hnd⟩ := hW
  have hA : DataW.TrodAll enc Try.prog W 0 (fun _ => true) true Try.f4.params.toList args.toList ds p := hA0
  rw [Try.params4] at hA hval
  obtain ⟨v0, vs0, d0, ds0, p0, q0, hargs, rfl, rfl, h0, r0⟩ := trodAll_cons hA
  obtain ⟨v1, vs1, d1, ds1, p1, q1, rfl, rfl, rfl, h1, r1⟩ := trodAll_cons r0
  obtain ⟨v2, vs2, d2, ds2, p2, q2, rfl, rfl, rfl, h2, r2⟩ := trodAll_cons r1
  obtain ⟨rfl, rfl, rfl⟩ := trodAll_nil r2
  obtain rfl : args = #[v0, v1, v2] := by cases args; simp_all
  obtain ⟨rfl, rfl⟩ := trodVars_none hV
  obtain ⟨a0, rfl, rfl, rfl, w0⟩ := open_int Try.underlying22 (hval 0 22 v0 rfl rfl) h0
  obtain ⟨a1, rfl, rfl, rfl, w1⟩ := open_int Try.underlying5 (hval 1 5 v1 rfl rfl) h1
  obtain ⟨a2, rfl, rfl, rfl, w2⟩ := open_int Try.underlying3 (hval 2 3 v2 rfl rfl) h2
  clear hA0 hval0
  refine (walk a0 a1 a2 w0 w1 w2 W).mono fun e W' ⟨he, hg⟩ => ?_
  subst he
  exact ⟨_, rfl, _, _, _, [], _, [], hW', trodAll_mk1 (shut_bool Try.underlying4 _), (trodAll_cons_mk (shut_int Try.underlying22 w0) (trodAll_cons_mk (shut_int Try.underlying5 w1) (trodAll_cons_mk (shut_int Try.underlying3 w2) trodAll_mk0))), rfl, hg.frame _, fun h => by cases h⟩

theorem over : Rows.dicePicksRow.holds Try.pinned (OpenSpec.ofChange Rows.dicePicksSpec) :=
  OpenClaim.holds_of_wide 4 Try.f4 rfl rfl rfl rfl rfl rfl rfl ⟨rfl, rfl, rfl, rfl, rfl⟩ rfl rfl rfl rfl rfl (by kernel_rfl) Try.func4 (by kernel_rfl)
    (of_decide_eq_true (by kernel_rfl)) (by unfold Func.isWrapper; first | (rw [if_pos (by decide +kernel)]; kernel_rfl) | (rw [if_neg (by decide +kernel)]; exact ⟨rfl, rfl⟩))
    (fun os started H enc _ => lifted os started H enc)

theorem proved : Rows.DicePicksSaid :=
  over
#print axioms proved
end Go.Proofs.Ytggkndmmbkejgaa.dicePicks
