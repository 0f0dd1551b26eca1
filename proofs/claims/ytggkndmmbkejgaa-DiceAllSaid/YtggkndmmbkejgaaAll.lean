/-
  DiceAll: who picks all has all, in some order; nobody is drawn for where there is no choice.
-/
import Derived.Test.YtggkndmmbkejgaaRows
import Derived.WalkKit
import Derived.ProofKit
import Derived.OpenShut
import Derived.Below
import Derived.ShutString
import Derived.Test.YtggkndmmbkejgaaDh
namespace Go.Proofs.Ytggkndmmbkejgaa.diceAll
open Go.ChangeShapes Go.WideShapes Go.ChangeAt Go.RowKit
open Go.ChangeMaps (open_string shut_string)
set_option linter.unusedVariables false      -- a walk need not use every 'w<i>' (that an integer argument fits its kind)

theorem own : ownKnob Try.prog.godebug = none := by kernel_rfl

theorem pick_mem_ (s : Int) (l : List Int) (many : Int) : ∀ p ∈ (Dp.pick nx vl s l many).2, p ∈ l := Dp.pick_mem nx vl s l many
theorem pick_nodup_ (s : Int) (l : List Int) (many : Int) (h : l.Nodup) : (Dp.pick nx vl s l many).2.Nodup := Dp.pick_nodup nx vl s l many h
theorem own_base4 {w : World} {base base' n : Nat} {v : Value} {xs : List Value} (h : w.ownsRow base 4 1 v n xs) (hb : base' ≤ base) : w.ownsRow base' 4 1 v n xs := by
  refine ⟨h.1, ?_⟩
  rcases h.2 with h' | ⟨g, cap, cur, hv, hg, r⟩
  · exact .inl h'
  · exact .inr ⟨g, cap, cur, hv, by omega, r⟩
theorem pick_one (s : Int) : Dp.pick nx vl s [7] 1 = (s, [7]) := rfl
theorem pick_none (s : Int) : Dp.pick nx vl s [] 4 = (s, []) := rfl
theorem isl_one (w : World) (x : Int) : IsL (w.alloc (.cells #[.int .i64 x] 3)) (some ⟨w.heap.size, 0, none⟩) 1 [x] :=
  isl_own (base := w.heap.size) (c := 1) (World.ownsRow_lit w _ 1 (Nat.le_refl _) (by unfold maxLen; omega) rfl) (by omega)
theorem isl_nil (w : World) : IsL w none 0 [] := ⟨rfl, by omega, Reads.none_⟩

set_option maxRecDepth 100000 in
set_option maxHeartbeats 1000000 in
theorem walk (a0 : Int) (a1 : Int) (_w0 : (Lit.int .u64 a0).wf = true) (w1 : (Lit.int .u8 a1).wf = true) (w : World) :
    Calls Try.prog 7 #[.int .u64 a0, .int .u8 a1] w fun e w' => e = .returned (.bool true) ∧ Below w.heap.size w w' := by
  clear _w0
  have hn := bounds_u8 w1
  clear w1
  obtain ⟨hn0, hn1⟩ := hn
  obtain ⟨k, hk⟩ : ∃ k : Nat, a1 % 30 = (k : Int) := ⟨(a1 % 30).toNat, by omega⟩
  have hk30 : k < 30 := by omega
  obtain ⟨i0, hi, hz0, hz1, hz2⟩ := info_parts Try.info3
  have hmk : ∀ w : World, (Instr.makeSlice 37 (.int .i64 30) (.int .i64 30)).run Try.prog w = .ok (.slice (some ⟨w.heap.size, 0, none⟩) 30 30) (w.alloc (.cells (falses 30) 4)) := make_bools 30 (by omega)
  go_enter Try.func7, Try.ntmps7
  go_wp2_with (first | (go_at_call 8; go_must (refine (awake_any _).mono ?_); rintro e w1 ⟨rfl, hb1⟩))
  clear hk hn0 hn1
  have hO : w1.ownsRow w1.heap.size 3 1 (.slice none 0 0) 0 (ints (mults 1 0)) := World.ownsRow_nil _ _ _ _
  go_loopw [7, 8] (fun lv iv wr => ∃ i : Nat, i ≤ k ∧ iv = .int .i64 i ∧ wr.ownsRow w1.heap.size 3 1 lv i (ints (mults 1 i)) ∧ Below w1.heap.size w1 wr)
    (fun _ iv _ => k - (intOf iv).toNat)
  case atStart => exact ⟨0, Nat.zero_le _, rfl, hO, Below.refl _ _⟩
  case round =>
    clear hO
    obtain ⟨i, hik, rfl, hO, hB⟩ := hrel
    by_cases hlt : i < k
    · go_wp2_with (at_builtin; go_must (refine wpList_append_any _ rfl (.tmp 28) (.tmp 30) _ rfl w1.heap.size 3 i0 _ 1 8 Try.underlying23 hi hz0 hz1 hz2 rfl (by omega) u7 i (ints (mults 1 i)) rfl (hO.alloc _) (wr.heap.size + 1) (some ⟨wr.heap.size, 0, none⟩) 1 1 [.int .i64 (i : Int)] rfl (reads_one _ _ _) (one_cell _) ?c3 ?c4 ?c5 ?_))
      case c3 => unfold maxLen; omega
      case c4 => omega
      case c5 => have := hB.size; simp; omega
      intro v3 w3 ho3 hg3 _
      have R : w3.ownsRow w1.heap.size 3 1 v3 (i + 1) (ints (mults 1 (i + 1))) ∧ Below w1.heap.size w1 w3 := by
        refine ⟨by rw [mults_succ, Int.one_mul]; simpa [ints] using ho3, ?_⟩
        exact (hB.alloc hB.size _).grown hg3 (by have := hB.size; simp; omega) (fun x e => (hO.lt x e).1)
      clear ho3 hg3 hO hB
      go_wp2
      go_roundw
      case rel => exact ⟨i + 1, by omega, by go_num, R.1, R.2⟩
      case measure => simp [intOf]; omega
    · obtain rfl : i = k := by omega
      have hb1s := hb1.size
      have hBs := hB.size
      obtain ⟨A9, c9, rfl⟩ := own_slice hO
      go_wp2_with fail
      refine (new_any _ _).mono ?_
      rintro e w3 ⟨rfl, rfl⟩
      go_wp2_with fail
      refine (pick_any wr.heap.size a0 _ A9 i c9 (mults 1 i) _ (die_new wr a0) (isl_own (hO.alloc _) (by omega))).mono ?_
      rintro e w4 ⟨v, rfl, hP, _, hg4⟩
      have hPm := pick_mem_ a0 (mults 1 i) ((i : Int) + 3)
      have hPn := pick_nodup_ a0 (mults 1 i) ((i : Int) + 3) (mults_nodup (by omega) i)
      have hPp := Dp.pick_perm nx vl a0 (mults 1 i) ((i : Int) + 3) (by rw [mults_length]; omega)
      have hw : Dp.want (mults 1 i) ((i : Int) + 3) = i := by have := mults_length 1 i; unfold Dp.want; omega
      rw [hw] at hP
      clear hw
      generalize (Dp.pick nx vl a0 (mults 1 i) ((i : Int) + 3)).2 = P at hP hPm hPn hPp
      have hPl : P.length = i := by rw [hPp.length_eq, mults_length]
      have htot : 2 * tot P = (i : Int) * ((i : Int) - 1) := by rw [tot_perm hPp, tot_mults]
      have hsum0 : 0 ≤ (i : Int) * ((i : Int) - 1) := by
        rcases Nat.eq_zero_or_pos i with rfl | h
        · simp
        · exact Int.mul_nonneg (by omega) (by omega)
      have hsum1 : (i : Int) * ((i : Int) - 1) ≤ 870 := by
        rcases Nat.eq_zero_or_pos i with rfl | h
        · simp
        · have h30 : (i : Int) * ((i : Int) - 1) ≤ 30 * 29 := Int.mul_le_mul (by omega) (by omega) (by omega) (by omega)
          omega
      have htq : Hid ((tot P == (i : Int) * ((i : Int) - 1) / 2) = true) := by show _ = true; rw [beq_iff_eq]; omega
      have hstep : ∀ j, j < i → tot (P.take (j + 1)) = tot (P.take j) + P.getD j 0 := fun j hj => by rw [take_getD (by omega), tot_append]; simp [tot]
      have HST := Lib.hid hstep
      have hfull : P.take i = P := List.take_of_length_le (by omega)
      have HF := Lib.hid hfull
      obtain ⟨A, c, rfl⟩ := own_slice hP
      have hB4 : Below w.heap.size w w4 := below_of_grown ((hb1.trans (hB.mono hb1s)).alloc (by omega) _) hg4 (by omega)
      have h41 : w1.heap.size ≤ w4.heap.size := by have := hg4.size; simp at this; omega
      have hP4 := own_base hP (base' := w1.heap.size) (by simp; omega)
      have HPm := Lib.hid hPm
      have HPn := Lib.hid hPn
      have HB4 := Lib.hid hB4
      have HP4 := Lib.hid hP4
      clear hP hg4 hO hB hPm hPn hB4 hP4 hPp hPl htot hstep hfull
      go_wp2_with fail
      have hM0 : Met (w4.alloc (.cells (falses 30) 4)) w1.heap.size 1 A c i w4.heap.size 30 P 0 := ⟨HP4.out.alloc _, own_base4 (falses_own 30 (by omega) 1 w4) h41⟩
      have hB5 := HB4.out.alloc HB4.out.size (.cells (falses 30) 4)
      go_loopw [10, 12] (fun sv jv wi => ∃ j : Nat, j ≤ i ∧ sv = .int .i64 (tot (P.take j)) ∧ 0 ≤ tot (P.take j) ∧ tot (P.take j) ≤ 30 * (j : Int) ∧ jv = .int .i64 j ∧ Met wi w1.heap.size 1 A c i w4.heap.size 30 P j ∧ Below w.heap.size w wi)
        (fun _ jv _ => i - (intOf jv).toNat)
      case atStart => exact ⟨0, Nat.zero_le _, rfl, by simp [tot], by simp [tot], rfl, hM0, hB5⟩
      case round =>
        clear hM0 hB5
        obtain ⟨j, hj, rfl, hs0, hs1, rfl, hM, hB5⟩ := hrel
        by_cases hjm : j < i
        · obtain ⟨gx, q, rfl, hq, hp, hcx, hcs, hfs, hM', hgs⟩ := hM.at_ hjm HPn.out HPm.out (by omega) (by omega)
          have hne : gx ≠ w4.heap.size := by have := own_type_ne hM.picked hM.seen (by decide); simpa [Value.ownBlock] using this
          have hB6 := below_of_grown hB5 hgs (by omega)
          have hM1 := Lib.hid hM'
          have HT := Lib.hid (HST.out j hjm)
          clear hM' hM hgs hB5
          generalize P.getD j 0 = p at hp hcx HT
          obtain rfl : p = (q : Int) := by omega
          clear hp
          generalize tot (P.take j) = T at hs0 hs1 HT ⊢
          have hq30 : q < 30 := by omega
          have hj30 : j < 30 := by omega
          go_wp2_with fail
          go_roundw
          case rel => exact ⟨j + 1, by omega, by rw [HT.out], by rw [HT.out]; omega, by rw [HT.out]; omega, by go_num, hM1.out, hB6⟩
          case measure => simp [intOf]; omega
        · obtain rfl : j = i := by omega
          have HB5 := Lib.hid hB5
          clear hM hB5 hs0 hs1
          rw [HF.out]
          go_wp2_with fail
          refine (new_any _ _).mono ?_
          rintro e w5 ⟨rfl, rfl⟩
          go_wp2_with fail
          refine (new_any _ _).mono ?_
          rintro e w5 ⟨rfl, rfl⟩
          go_wp2_with fail
          have hdd := die_alloc (die_alloc (die_new wr a0) (.cells #[.int .u64 a0] 43)) (.cells #[.int .i64 7] 3)
          have hde := die_alloc (die_new2 wr (.cells #[.int .u64 a0] 43) a0) (.cells #[.int .i64 7] 3)
          have hl1 := isl_one ((wr.alloc (.cells #[.int .u64 a0] 43)).alloc (.cells #[.int .u64 a0] 43)) 7
          simp only [World.size_alloc] at hl1
          refine (pick_any wr.heap.size a0 1 _ 1 1 [7] _ hdd hl1).mono ?_
          rintro e w5 ⟨v5, rfl, ho5, hd5, hg5⟩
          rw [pick_one] at ho5 hd5
          have hw5 : Dp.want [7] 1 = 1 := rfl
          rw [hw5] at ho5
          have he5 := die_grown hde hg5 (by omega)
          have hzw := HB5.out.size
          have hB6 := below_of_grown (((HB5.out.alloc HB5.out.size (.cells #[.int .u64 a0] 43)).alloc (by simp; omega) (.cells #[.int .u64 a0] 43)).alloc (by simp; omega) (.cells #[.int .i64 7] 3)) hg5 hzw
          have hz5 : wr.heap.size + 3 ≤ w5.heap.size := by have := hg5.size; simpa using this
          clear hdd hde hl1 hg5 hw5
          go_wp2_with fail
          refine (pick_any wr.heap.size a0 4 none 0 0 [] _ hd5 (isl_nil _)).mono ?_
          rintro e w6 ⟨v6, rfl, ho6, hd6, hg6⟩
          rw [pick_none] at ho6 hd6
          have hw6 : Dp.want [] 4 = 0 := rfl
          rw [hw6] at ho6
          obtain ⟨A6, c6, rfl⟩ := own_slice ho6
          have he6 := die_grown he5 hg6 (by omega)
          have hB7 := below_of_grown hB6 hg6 hzw
          have ho5' := ho5.kept hg6 (row_ne ho5 (by simp; omega))
          obtain ⟨g5, c5, rfl⟩ := own_form ho5' (by omega)
          have hc5 : w6.cell? ⟨g5, 0, none⟩ = some (.int .i64 7) := own_cell ho5' (by omega)
          have htq' := htq.out
          clear ho5 ho5' ho6 hd5 he5 hg6 hw6 hB6
          go_wp2_with fail
          refine (bel_lo 1 _ (by omega) _).mono ?_
          rintro e w7 ⟨rfl, rfl⟩
          go_wp2_with fail
          refine (bel_lo (-3) _ (by omega) _).mono ?_
          rintro e w8 ⟨rfl, rfl⟩
          go_wp2_with fail
          refine (next_any _ _ _ hd6.1 hd6.2).mono ?_
          rintro e w9 ⟨rfl, rfl⟩
          have he7 := die_grown he6 (grown_set _ wr.heap.size (.int .u64 (nx a0))) (by omega)
          have hB8 := below_of_grown hB7 (grown_set _ wr.heap.size (.int .u64 (nx a0))) hzw
          go_wp2_with fail
          refine (next_any _ _ _ he7.1 he7.2).mono ?_
          rintro e w9 ⟨rfl, rfl⟩
          have hB9 := below_of_grown hB8 (grown_set _ (wr.heap.size + 1) (.int .u64 (nx a0))) (by omega)
          go_wp2_with fail
          go_ret
          exact ⟨ret_bool (by simp), hB9⟩

set_option maxRecDepth 100000 in
theorem lifted (os : Os) (started : os.Started) (H : Type) (enc : TypeId × Value → H) :
    ReturnsInHanded {} Try.checked os 7 .any (Rows.diceAllSpec.pre6 enc Try.prog Try.f7 Rows.diceAllRow.domain false) (Rows.diceAllSpec.post enc Try.prog Try.f7 false true false false) := by
  refine returnsInHanded_of_change (C := Try.checked) own started (by kernel_rfl) Try.func7
    (ChangeSpec.witness6 (enc := enc) (C := Try.checked) false ⟨#[], #[.int .u64 0, .int .u8 0], []⟩ 8 (by kernel_rfl) (by kernel_rfl) (by kernel_rfl) (by kernel_rfl)) ?_
  intro W base args ds gs before hval0 hW hcnd _
  have hval : ∀ (j : Nat) t v, Try.f7.params[j]? = some t → args[j]? = some v → Value.okWide Try.prog W .any base t v := hval0
  have hW' := hW
  obtain ⟨p, q, hA0, hV, rfl, hfz, hnd⟩ := hW
  have hA : DataW.TrodAll enc Try.prog W 0 (fun _ => true) true Try.f7.params.toList args.toList ds p := hA0
  rw [Try.params7] at hA hval
  obtain ⟨v0, vs0, d0, ds0, p0, q0, hargs, rfl, rfl, h0, r0⟩ := trodAll_cons hA
  obtain ⟨v1, vs1, d1, ds1, p1, q1, rfl, rfl, rfl, h1, r1⟩ := trodAll_cons r0
  obtain ⟨rfl, rfl, rfl⟩ := trodAll_nil r1
  obtain rfl : args = #[v0, v1] := by cases args; simp_all
  obtain ⟨rfl, rfl⟩ := trodVars_none hV
  obtain ⟨a0, rfl, rfl, rfl, w0⟩ := open_int Try.underlying22 (hval 0 22 v0 rfl rfl) h0
  obtain ⟨a1, rfl, rfl, rfl, w1⟩ := open_int Try.underlying5 (hval 1 5 v1 rfl rfl) h1
  clear hA0 hval0
  refine (walk a0 a1 w0 w1 W).mono fun e W' ⟨he, hg⟩ => ?_
  subst he
  exact ⟨_, rfl, _, _, _, [], _, [], hW', trodAll_mk1 (shut_bool Try.underlying4 _), (trodAll_cons_mk (shut_int Try.underlying22 w0) (trodAll_cons_mk (shut_int Try.underlying5 w1) trodAll_mk0)), rfl, hg.frame _, fun h => by cases h⟩

theorem over : Rows.diceAllRow.holds Try.pinned (OpenSpec.ofChange Rows.diceAllSpec) :=
  OpenClaim.holds_of_wide 7 Try.f7 rfl rfl rfl rfl rfl rfl rfl ⟨rfl, rfl, rfl, rfl, rfl⟩ rfl rfl rfl rfl rfl (by kernel_rfl) Try.func7 (by kernel_rfl)
    (of_decide_eq_true (by kernel_rfl)) (by unfold Func.isWrapper; first | (rw [if_pos (by decide +kernel)]; kernel_rfl) | (rw [if_neg (by decide +kernel)]; exact ⟨rfl, rfl⟩))
    (fun os started H enc _ => lifted os started H enc)

theorem proved : Rows.DiceAllSaid :=
  over
#print axioms proved
end Go.Proofs.Ytggkndmmbkejgaa.diceAll
