/-
  DicePlays: whatever is drawn, out of whatever number, is the document's, draw by draw.
-/
import Derived.Test.YtggkndmmbkejgaaRows
import Derived.WalkKit
import Derived.ProofKit
import Derived.OpenShut
import Derived.ShutString
import Derived.ChangeOld
import Derived.Below
import Derived.Test.YtggkndmmbkejgaaDg
namespace Go.Proofs.Ytggkndmmbkejgaa.dicePlays
open Go.ChangeShapes Go.WideShapes Go.ChangeAt Go.RowKit
open Go.ChangeMaps (open_string shut_string)
set_option linter.unusedVariables false

theorem own : ownKnob Try.prog.godebug = none := by kernel_rfl
theorem laidOut : laidOutB Try.prog = true := by kernel_rfl

/-- WHAT THE WALK IS TOLD OF A SLICE OF INTEGERS THAT CAME IN: it is nil; or it leads to a row of 'cap' cells, the numbers 'zs' (the first 'len' are its elements, the rest its spare room), each fitting its kind. -/
def IsRow (k : IntKind) (w : World) (a : Option Addr) (len cap : Nat) (zs : List Int) : Prop :=
  (a = none ∧ len = 0 ∧ cap = 0 ∧ zs = []) ∨
  ∃ x, a = some x ∧ len ≤ cap ∧ cap ≤ maxLen ∧ zs.length = cap ∧ (∀ i, i < zs.length → w.cell? (x.add i) = some (.int k (zs.getD i 0))) ∧ ∀ n ∈ zs, (Lit.int k n).wf = true

theorem tdiv4 (c : Int) (h0 : -9223372036854775808 ≤ c) (h1 : c ≤ 9223372036854775807) : -2305843009213693952 ≤ c.tdiv 4 ∧ c.tdiv 4 ≤ 2305843009213693951 := by
  rcases Int.le_total 0 c with h | h
  · rw [Int.tdiv_eq_ediv_of_nonneg h]; omega
  · have e : c.tdiv 4 = -((-c) / 4) := by
      rw [← Int.tdiv_eq_ediv_of_nonneg (by omega), Int.neg_tdiv, Int.neg_neg]
    rw [e]; omega

/-- the reference's Below of whatever number, by one contract. -/
theorem rbel_ex (s n : Int) (hn : n ≤ 9223372036854775807) (x s' : Int) (hs : s' = (if n < 2 then s else nx s)) (hx : x = (if n < 2 then 0 else vl s % n)) :
    Hid (∀ w : World, Calls Try.prog 12 #[.int .u64 s, .int .i64 n] w fun e w' => e = .returned (.tuple #[.int .u64 s', .int .i64 x]) ∧ ∃ q, w' = w.drewN q) := by
  by_cases h : n < 2
  · rw [if_pos h] at hs hx
    subst hs hx
    refine fun w => (rbel_lo s' n w h).mono ?_
    rintro e w' ⟨rfl, rfl⟩
    exact ⟨rfl, 0, rfl⟩
  · rw [if_neg h] at hs hx
    subst hs hx
    exact fun w => rbel_hi s n w (by omega) hn

set_option maxRecDepth 100000 in
set_option maxHeartbeats 1000000 in
theorem walk (a0 : Int) (a1 : Option Addr) (len1 cap1 : Nat) (z1 : List Int) (a2 : Option Addr) (len2 cap2 : Nat) (z2 : List Int) (w : World) (_w0 : (Lit.int .u64 a0).wf = true) (w1 : IsRow .i64 w a1 len1 cap1 z1) (w2 : IsRow .i64 w a2 len2 cap2 z2) :
    Calls Try.prog 3 #[.int .u64 a0, .slice a1 len1 cap1, .slice a2 len2 cap2] w fun e w' => e = .returned (.bool true) ∧ Below w.heap.size w w' := by
  clear _w0
  obtain ⟨hlc, hcm, hrow⟩ := row_cases w1
  obtain ⟨hlc2, hcm2, hrow2⟩ := row_cases w2
  clear w1 w2
  have hlm : len1 ≤ 9223372036854775807 := by unfold maxLen at hcm; omega
  have hlm2 : len2 ≤ 9223372036854775807 := by unfold maxLen at hcm2; omega
  clear hcm hcm2
  by_cases hbig : 60 < len1
  · clear hrow hrow2
    go_enter Try.func3, Try.ntmps3
    go_wp2_with (first | (go_at_call 8; go_must (refine (awake_any _).mono ?_); rintro e w1 ⟨rfl, hb1⟩))
    go_ret
    exact ⟨rfl, hb1⟩
  · have hlen : len1 ≤ 60 := by omega
    clear hlm
    by_cases hbig2 : 30 < len2
    · clear hrow hrow2
      go_enter Try.func3, Try.ntmps3
      go_wp2_with (first | (go_at_call 8; go_must (refine (awake_any _).mono ?_); rintro e w1 ⟨rfl, hb1⟩))
      go_ret
      exact ⟨rfl, hb1⟩
    · have hlen2 : len2 ≤ 30 := by omega
      clear hlm2
      go_enter Try.func3, Try.ntmps3
      go_wp2_with (first | (go_at_call 8; go_must (refine (awake_any _).mono ?_); rintro e w1 ⟨rfl, hb1⟩))
      refine (new_any _ _).mono ?_
      rintro e w2 ⟨rfl, rfl⟩
      have hsz := hb1.size
      have hB0 : Below w.heap.size w (w1.alloc (.cells #[.int .u64 a0] 43)) := hb1.alloc hb1.size _
      have hDa := die_new w1 a0
      go_wp2_with fail
      go_loopw [9, 10] (fun sv iv wr => ∃ (k : Nat) (s : Int), k ≤ len1 ∧ sv = .int .u64 s ∧ iv = .int .i64 k ∧ Die wr w1.heap.size s ∧ Below w.heap.size w wr)
        (fun _ iv _ => len1 - (intOf iv).toNat)
      case atStart => exact ⟨0, a0, Nat.zero_le _, rfl, rfl, hDa, hB0⟩
      case round =>
        clear hDa hB0
        obtain ⟨k, s, hk, rfl, rfl, hda, hB⟩ := hrel
        by_cases hlt : k < len1
        · obtain ⟨b, off, rfl, hbl, hcell⟩ := hrow.resolve_left (by omega)
          obtain ⟨hc, hlo, hhi⟩ := hcell k hlt
          clear hcell
          have hcr : wr.cell? ⟨b, off + k, none⟩ = some (.int .i64 (z1.getD k 0)) := (hB.cell hbl).trans hc
          generalize z1.getD k 0 = c at hcr hlo hhi
          clear hc
          obtain ⟨hq0, hq1⟩ := tdiv4 c hlo hhi
          clear hlo hhi
          go_wp2_with fail
          · refine (rnext_any _ _).mono ?_
            rintro e w3 ⟨rfl, rfl⟩
            go_wp2_with fail
            refine (next_any _ _ _ hda.1 hda.2).mono ?_
            rintro e w3 ⟨rfl, rfl⟩
            have hda3 := die_set hda (nx s)
            have hB3 := below_of_grown hB (grown_set _ w1.heap.size (.int .u64 (nx s))) hsz
            clear hda hB hcr
            go_wp2_with fail
            go_roundw
            case rel => exact ⟨k + 1, nx s, by omega, rfl, by go_num, hda3, hB3⟩
            case measure => simp [intOf]; omega
          iterate 2
            · generalize c.tdiv 4 = n at hq0 hq1 ⊢
              obtain ⟨x, s', hx0, -, -, hx3, hs', hx', HC⟩ := bel_ex s n (by omega)
              have HR := rbel_ex s n (by omega) x s' hs' hx'
              clear hs' hx'
              refine (HR.out _).mono ?_
              rintro e w3 ⟨rfl, q, rfl⟩
              go_wp2_with fail
              refine (HC.out _ _ (show Die (wr.drewN q) _ _ from hda)).mono ?_
              rintro e w4 ⟨rfl, hd4, hg4⟩
              have hB4 := below_of_grown (below_dN hB q) hg4 hsz
              clear hda hB hcr hg4 hq0 hq1 hx3 hx0
              go_wp2_with fail
              go_roundw
              case rel => exact ⟨k + 1, s', by omega, rfl, by go_num, hd4, hB4⟩
              case measure => simp [intOf]; omega
          · generalize c.tdiv 4 = n at hq0 hq1 ⊢
            clear hcr
            have hL := isl_row hrow2 hB (by omega)
            refine (rpick_any s n a2 len2 cap2 _ wr hL).mono ?_
            rintro e w3 ⟨v3, rfl, ho3, hb3⟩
            have hd3 : Die w3 w1.heap.size s := die_block hda (hb3.block _ (die_lt hda))
            have hB3 : Below w.heap.size w w3 := hB.trans (hb3.mono hB.size)
            have hL3 := isl_row hrow2 hB3 (by omega)
            have HP := Lib.hid (pick_any w1.heap.size s n a2 len2 cap2 _ w3 hd3 hL3)
            have hdlt := die_lt hda
            have hz3 := hb3.size
            generalize (Dp.pick nx vl s (rowOf z2 len2) n).2 = P at ho3 HP
            generalize (Dp.pick nx vl s (rowOf z2 len2) n).1 = S at HP ⊢
            have hmle : Dp.want (rowOf z2 len2) n ≤ 30 := by have := rowOf_length z2 len2; unfold Dp.want; omega
            generalize Dp.want (rowOf z2 len2) n = m at ho3 HP hmle
            clear hL hL3 hd3 hda hB
            obtain ⟨A3, c3, rfl⟩ := own_slice ho3
            go_wp2_with fail
            refine HP.out.mono ?_
            rintro e w4 ⟨v4, rfl, ho4, hd4, hg4⟩
            obtain ⟨A4, c4, rfl⟩ := own_slice ho4
            have ho3' := ho3.kept hg4 (row_ne ho3 hdlt)
            have hB4 := below_of_grown hB3 hg4 hsz
            clear ho3 hB3 hg4 hb3 HP hz3
            go_wp2_with fail
            have c3 : ∀ j, j < m → ∃ g, A3 = some ⟨g, 0, none⟩ ∧ w4.cell? ⟨g, j, none⟩ = some (.int .i64 (P.getD j 0)) := fun j hj => by
              obtain ⟨g, c, e⟩ := own_form ho3' (by omega)
              injection e with e1 e2 e3
              subst e1
              exact ⟨g, rfl, own_cell ho3' hj⟩
            have c4 : ∀ j, j < m → ∃ g, A4 = some ⟨g, 0, none⟩ ∧ w4.cell? ⟨g, j, none⟩ = some (.int .i64 (P.getD j 0)) := fun j hj => by
              obtain ⟨g, c, e⟩ := own_form ho4 (by omega)
              injection e with e1 e2 e3
              subst e1
              exact ⟨g, rfl, own_cell ho4 hj⟩
            have C3 := Lib.hid c3
            have C4 := Lib.hid c4
            clear c3 c4 ho3' ho4
            go_loopw [19] (fun jv wi => ∃ (j q : Nat), j ≤ m ∧ jv = .int .i64 j ∧ wi = w4.drewN q) (fun jv _ => m - (intOf jv).toNat)
            case atStart => exact ⟨0, 0, Nat.zero_le _, rfl, rfl⟩
            case round =>
              obtain ⟨j, q, hj, rfl, rfl⟩ := hrel
              by_cases hjm : j < m
              · obtain ⟨g3, rfl, d3⟩ := C3.out j hjm
                obtain ⟨g4, rfl, d4⟩ := C4.out j hjm
                clear C3 C4
                have hji : (j : Int) < (m : Int) := by omega
                go_wp2_with fail
                go_quiet (fail)
                go_wp2
                go_roundw
                case rel => exact ⟨j + 1, _, by omega, by go_num, rfl⟩
                case measure => simp [intOf]; omega
              · obtain rfl : j = m := by omega
                clear C3 C4
                go_wp2_with fail
                go_roundw
                case rel => exact ⟨k + 1, S, by omega, rfl, by go_num, hd4, below_dN hB4 q⟩
                case measure => simp [intOf]; omega
        · obtain rfl : k = len1 := by omega
          go_wp2_with (go_at_call 11; go_must (refine (next_nil _).mono ?_); rintro e w3 ⟨rfl, rfl⟩)
          go_ret
          exact ⟨rfl, hB⟩

set_option maxRecDepth 100000 in
theorem lifted (os : Os) (started : os.Started) (H : Type) (enc : TypeId × Value → H) :
    ReturnsInHanded {} Try.checked os 3 .any (Rows.dicePlaysSpec.pre6 enc Try.prog Try.f3 Rows.dicePlaysRow.domain false) (Rows.dicePlaysSpec.post enc Try.prog Try.f3 false true false false) := by
  refine returnsInHanded_of_change (C := Try.checked) own started (by kernel_rfl) Try.func3
    (ChangeSpec.witness6 (enc := enc) (C := Try.checked) false ⟨#[], #[.int .u64 0, .slice none 0 0, .slice none 0 0], []⟩ 8 (by kernel_rfl) (by kernel_rfl) (by kernel_rfl) (by kernel_rfl)) ?_
  intro W base args ds gs before hval0 hW hcnd _
  have hval : ∀ (j : Nat) t v, Try.f3.params[j]? = some t → args[j]? = some v → Value.okWide Try.prog W .any base t v := hval0
  have hW' := hW
  obtain ⟨p, q, hA0, hV, rfl, hfz, hnd⟩ := hW
  have hA : DataW.TrodAll enc Try.prog W 0 (fun _ => true) true Try.f3.params.toList args.toList ds p := hA0
  rw [Try.params3] at hA hval
  obtain ⟨v0, vs0, d0, ds0, p0, q0, hargs, rfl, rfl, h0, r0⟩ := trodAll_cons hA
  obtain ⟨v1, vs1, d1, ds1, p1, q1, rfl, rfl, rfl, h1, r1⟩ := trodAll_cons r0
  obtain ⟨v2, vs2, d2, ds2, p2, q2, rfl, rfl, rfl, h2, r2⟩ := trodAll_cons r1
  obtain ⟨rfl, rfl, rfl⟩ := trodAll_nil r2
  obtain rfl : args = #[v0, v1, v2] := by cases args; simp_all
  obtain ⟨rfl, rfl⟩ := trodVars_none hV
  obtain ⟨a0, rfl, rfl, rfl, w0⟩ := open_int Try.underlying22 (hval 0 22 v0 rfl rfl) h0
  obtain ⟨a1, len1, cap1, rfl⟩ := okWide_slice Try.underlying23 (hval 1 23 v1 rfl rfl)
  have k1 := h1
  have lt1 : ∀ x ∈ p1, x.block < W.heap.size := by obtain ⟨m, hm⟩ := k1; exact DataW.trod_lt m _ _ _ hm
  obtain ⟨z1, w1⟩ : ∃ zs, IsRow .i64 W a1 len1 cap1 zs := by
    obtain ⟨fuel, hf⟩ := h1
    rcases open_ints Try.underlying23 Try.underlying3 (by kernel_rfl) hf with ⟨hcs, _⟩ | ⟨x, l, c, zs, hcs, _, hl, hm, hz, _, hcell, hwz⟩
    · simp [Value.cells] at hcs
      obtain ⟨rfl, rfl, rfl⟩ := hcs
      exact ⟨[], .inl ⟨rfl, rfl, rfl, rfl⟩⟩
    · simp [Value.cells] at hcs
      obtain ⟨rfl, rfl, rfl⟩ := hcs
      exact ⟨zs, .inr ⟨_, rfl, hl, hm, by simpa using hz, hcell, hwz⟩⟩
  obtain ⟨a2, len2, cap2, rfl⟩ := okWide_slice Try.underlying23 (hval 2 23 v2 rfl rfl)
  have k2 := h2
  have lt2 : ∀ x ∈ p2, x.block < W.heap.size := by obtain ⟨m, hm⟩ := k2; exact DataW.trod_lt m _ _ _ hm
  obtain ⟨z2, w2⟩ : ∃ zs, IsRow .i64 W a2 len2 cap2 zs := by
    obtain ⟨fuel, hf⟩ := h2
    rcases open_ints Try.underlying23 Try.underlying3 (by kernel_rfl) hf with ⟨hcs, _⟩ | ⟨x, l, c, zs, hcs, _, hl, hm, hz, _, hcell, hwz⟩
    · simp [Value.cells] at hcs
      obtain ⟨rfl, rfl, rfl⟩ := hcs
      exact ⟨[], .inl ⟨rfl, rfl, rfl, rfl⟩⟩
    · simp [Value.cells] at hcs
      obtain ⟨rfl, rfl, rfl⟩ := hcs
      exact ⟨zs, .inr ⟨_, rfl, hl, hm, by simpa using hz, hcell, hwz⟩⟩
  clear hA0 hval0
  refine (walk a0 a1 len1 cap1 z1 a2 len2 cap2 z2 W w0 w1 w2).mono fun e W' ⟨he, bel⟩ => ?_
  subst he
  exact ⟨_, rfl, _, _, _, [], _, [], hW', trodAll_mk1 (shut_bool Try.underlying4 _), (trodAll_cons_mk (shut_int Try.underlying22 w0) (trodAll_cons_mk (Below.trod laidOut (by kernel_rfl) (of_decide_eq_true (by kernel_rfl)) k1 bel lt1) (trodAll_cons_mk (Below.trod laidOut (by kernel_rfl) (of_decide_eq_true (by kernel_rfl)) k2 bel lt2) trodAll_mk0))), rfl, bel.frame _, fun h => by cases h⟩

theorem over : Rows.dicePlaysRow.holds Try.pinned (OpenSpec.ofChange Rows.dicePlaysSpec) :=
  OpenClaim.holds_of_wide 3 Try.f3 rfl rfl rfl rfl rfl rfl rfl ⟨rfl, rfl, rfl, rfl, rfl⟩ rfl rfl rfl rfl rfl (by kernel_rfl) Try.func3 (by kernel_rfl)
    (of_decide_eq_true (by kernel_rfl)) (by unfold Func.isWrapper; first | (rw [if_pos (by decide +kernel)]; kernel_rfl) | (rw [if_neg (by decide +kernel)]; exact ⟨rfl, rfl⟩))
    (fun os started H enc _ => lifted os started H enc)

theorem proved : Rows.DicePlaysSaid := over
#print axioms proved
end Go.Proofs.Ytggkndmmbkejgaa.dicePlays
