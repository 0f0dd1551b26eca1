/-
  FetchWaits: of a base of one a want is asked for at once, and then behind 1, 2, 4 ticks and so on, as long as may be; for every most and budget that can be handed in, without conditions; what the caller can reach lies as it did.
-/
import Derived.Test.YthjgmnafbikihaaRows
import Derived.WalkKit
import Derived.ProofKit
import Derived.OpenShut
import Derived.ShutString
import Derived.ChangeOld
import Derived.Below
import Derived.Test.YthjgmnafbikihaaFs
namespace Go.Proofs.Ythjgmnafbikihaa.fetchWaits
open Go.ChangeShapes Go.WideShapes Go.ChangeAt Go.RowKit
open Go.ChangeMaps (open_string shut_string)
set_option linter.unusedVariables false

theorem own : ownKnob Try.prog.godebug = none := by kernel_rfl
theorem laidOut : laidOutB Try.prog = true := by kernel_rfl

open Go.Sort Go.Maps in
theorem wait_pow (c : Int) (k : Nat) : wait 1 c (k : Int) = if c < (2 : Int) ^ k then c else (2 : Int) ^ k := by
  unfold wait
  rw [Int.toNat_natCast, Int.one_mul]

set_option maxRecDepth 100000 in
set_option maxHeartbeats 1000000 in
theorem walk (a0 : Int) (a1 : Int) (w : World) (w0 : (Lit.int .u16 a0).wf = true) (w1 : (Lit.int .u8 a1).wf = true) :
    Calls Try.prog 5 #[.int .u16 a0, .int .u8 a1] w fun e w' => e = .returned (.bool true) ∧ Below w.heap.size w w' := by
  have b0 := bounds_u16 w0
  have b1 := bounds_u8 w1
  clear w0 w1
  obtain ⟨il, hil⟩ : ∃ il, encS default = il := ⟨_, rfl⟩
  have hwv : wv default = .agg il.toArray := by rw [← hil]; rfl
  have HWV := Lib.hid hwv
  clear hwv hil
  go_enter Try.func5, Try.ntmps5
  go_wp2_with fail
  refine (awake_any _).mono ?_
  rintro e w1 ⟨rfl, B1⟩
  go_wp2_with fail
  obtain ⟨c, hc⟩ : ∃ c, c = a0 % 100 + 1 := ⟨_, rfl⟩
  obtain ⟨n, hn⟩ : ∃ n, n = a1 % 12 + 1 := ⟨_, rfl⟩
  have c1 : 1 ≤ c := by omega
  have c2 : c ≤ 100 := by omega
  have n1 : 1 ≤ n := by omega
  have n2 : n ≤ 12 := by omega
  rw [← hc, ← hn]
  clear hc hn b0 b1
  refine (ht_new w w1 1 c n B1 (by unfold newOk; omega)).mono ?_
  rintro e w2 ⟨g, b, rfl, ht, _⟩
  have h1 := ht_start ht (by decide) default
  rw [HWV.out, show (!(lk [] (default : WS)).isSome) = true from rfl, show stE [] (default : WS) = toE default (some (0, 1)) from rfl] at h1
  have H1 := Lib.hid h1
  clear h1 ht B1
  go_wp2_with (refine wpList_build_none rfl rfl ?_; rw [HWV.out])
  refine H1.out.mono ?_
  rintro e w3 ⟨rfl, ht3, _⟩
  have H3 := Lib.hid (ht_dice ht3 5)
  clear ht3 H1
  go_wp2_with fail
  refine H3.out.mono ?_
  rintro e w4 ⟨d, rfl, hd4, q1, q2⟩
  clear q1 q2
  have HD4 := Lib.hid hd4
  clear hd4 H3
  go_wp2_with fail
  go_loopw [11, 12, 13, 14, 15, 16] (fun xv wv kv iv _ _ wr => ∃ (i k : Nat) (nx : Int), (i : Int) + 1 ≤ nx ∧ nx ≤ 1 + 100 * k ∧ (k : Int) ≤ n ∧ iv = .int .i64 ((i : Int) + 1) ∧ kv = .int .i64 k ∧ xv = .int .i64 nx ∧ wv = .int .i64 ((2 : Int) ^ k) ∧ HD w wr g b d 1 c n (toE default (some ((k : Int), nx - i))) 5)
    (fun _ _ _ iv _ _ _ => 1302 - (intOf iv).toNat)
  case atStart => exact ⟨0, 0, 1, by omega, by omega, by omega, rfl, rfl, rfl, rfl, HD4.out⟩
  case round =>
    clear HD4
    obtain ⟨i, k, nx, x1, x2, x3, rfl, rfl, rfl, rfl, hd⟩ := hrel
    have htk := tick_one c n default (some ((k : Int), nx - i)) 5
    have hc := hd_tick hd (by simp [toE]) _ htk
    have hk12 : k ≤ 12 := by omega
    have hp1 : (1 : Int) ≤ 2 ^ k := by
      have : (0 : Int) < 2 ^ k := Int.pow_pos (by decide)
      omega
    have hp2 : (2 : Int) ^ k ≤ 4096 := by
      have : (2 : Nat) ^ k ≤ 2 ^ 12 := Nat.pow_le_pow_right (by decide) hk12
      exact_mod_cast this
    have hi1 : (i : Int) + 1 ≤ 1300 := by omega
    have hps : (2 : Int) ^ (k + 1) = 2 * 2 ^ k := by rw [Int.pow_succ]; omega
    have hw := wait_pow c k
    have hw2 : wait 1 c (k : Int) = min ((2 : Int) ^ k) c := by rw [hw, min_if]
    obtain ⟨pk, hpk⟩ : ∃ pk, (2 : Int) ^ k = pk := ⟨_, rfl⟩
    rw [hpk] at hp1 hp2 hps hw2 ⊢
    have HPK := Lib.hid hpk
    have HPS := Lib.hid hps
    have HW := Lib.hid hw2
    clear hpk hps hw hw2
    by_cases h1 : 0 < nx - i - 1
    · have h3 : (i : Int) + 1 < nx := by omega
      simp only [o1, if_pos h1, if_false, Bool.false_eq_true, List.length_nil] at hc
      have HC := Lib.hid hc
      clear hd htk hc
      go_wp2_with fail
      refine HC.out.mono ?_
      rintro e w5 ⟨A, cc, A', c', m, rfl, _, _, _, hd5, _⟩
      have HD5 := Lib.hid hd5
      clear hd5 HC
      go_wp2_with fail
      go_roundw
      case rel => exact ⟨i + 1, k, nx, by omega, x2, x3, by go_num, rfl, rfl, by rw [HPK.out], by have := HD5.out; rw [show nx - ((i + 1 : Nat) : Int) = nx - i - 1 by omega]; exact this⟩
      case measure => simp [intOf]; omega
    · have h3 : nx ≤ (i : Int) + 1 := by omega
      by_cases h2 : (k : Int) = n
      · simp only [o1, if_neg h1, if_pos h2, if_true, if_false, Bool.false_eq_true, List.length_nil, List.length_cons] at hc
        have HC := Lib.hid hc
        clear hd htk hc
        go_wp2_with fail
        refine HC.out.mono ?_
        rintro e w5 ⟨A, cc, A', c', m, rfl, _, _, _, hd5, _⟩
        have H5 := Lib.hid (hd_open hd5 (by simp [toE]))
        clear hd5 HC
        go_wp2_with fail
        refine H5.out.mono ?_
        rintro e w6 ⟨B, c6, rfl, _, hd6, _⟩
        have HB := Lib.hid hd6.ht.below
        clear hd6 H5
        simp only [toE, List.length_nil]
        go_wp2_with fail
        go_ret
        exact ⟨rfl, HB.out⟩
      · simp only [o1, if_neg h1, if_neg h2, if_true, if_false, Bool.false_eq_true, List.length_nil, List.length_cons] at hc
        have HC := Lib.hid hc
        clear hd htk hc
        go_wp2_with fail
        refine HC.out.mono ?_
        rintro e w5 ⟨A, cc, A', c', m, rfl, _, _, _, hd5, _⟩
        have HD5 := Lib.hid hd5
        clear hd5 HC
        have hm1 : 1 ≤ min pk c := by omega
        have hm2 : min pk c ≤ 100 := by omega
        go_wp2_with fail
        go_roundw
        case rel =>
          refine ⟨i + 1, k + 1, (i : Int) + 1 + min pk c, by omega, by omega, by omega, by go_num, by go_num, rfl, by rw [HPS.out], ?_⟩
          have := HD5.out
          rw [HW.out] at this
          rw [show (i : Int) + 1 + min pk c - ((i + 1 : Nat) : Int) = min pk c by omega]
          exact this
        case measure => simp [intOf]; omega

set_option maxRecDepth 100000 in
theorem lifted (os : Os) (started : os.Started) (H : Type) (enc : TypeId × Value → H) :
    ReturnsInHanded {} Try.checked os 5 .any (Rows.fetchWaitsSpec.pre6 enc Try.prog Try.f5 Rows.fetchWaitsRow.domain false) (Rows.fetchWaitsSpec.post enc Try.prog Try.f5 false true false false) := by
  refine returnsInHanded_of_change (C := Try.checked) own started (by kernel_rfl) Try.func5
    (ChangeSpec.witness6 (enc := enc) (C := Try.checked) false ⟨#[], #[.int .u16 0, .int .u8 0], []⟩ 8 (by kernel_rfl) (by kernel_rfl) (by kernel_rfl) (by kernel_rfl)) ?_
  intro W base args ds gs before hval0 hW hcnd _
  have hval : ∀ (j : Nat) t v, Try.f5.params[j]? = some t → args[j]? = some v → Value.okWide Try.prog W .any base t v := hval0
  have hW' := hW
  obtain ⟨p, q, hA0, hV, rfl, hfz, hnd⟩ := hW
  have hA : DataW.TrodAll enc Try.prog W 0 (fun _ => true) true Try.f5.params.toList args.toList ds p := hA0
  rw [Try.params5] at hA hval
  obtain ⟨v0, vs0, d0, ds0, p0, q0, hargs, rfl, rfl, h0, r0⟩ := trodAll_cons hA
  obtain ⟨v1, vs1, d1, ds1, p1, q1, rfl, rfl, rfl, h1, r1⟩ := trodAll_cons r0
  obtain ⟨rfl, rfl, rfl⟩ := trodAll_nil r1
  obtain rfl : args = #[v0, v1] := by cases args; simp_all
  obtain ⟨rfl, rfl⟩ := trodVars_none hV
  obtain ⟨a0, rfl, rfl, rfl, w0⟩ := open_int Try.underlying43 (hval 0 43 v0 rfl rfl) h0
  obtain ⟨a1, rfl, rfl, rfl, w1⟩ := open_int Try.underlying5 (hval 1 5 v1 rfl rfl) h1
  clear hA0 hval0
  refine (walk a0 a1 W w0 w1).mono fun e W' ⟨he, bel⟩ => ?_
  subst he
  exact ⟨_, rfl, _, _, _, [], _, [], hW', trodAll_mk1 (shut_bool Try.underlying4 _), (trodAll_cons_mk (shut_int Try.underlying43 w0) (trodAll_cons_mk (shut_int Try.underlying5 w1) trodAll_mk0)), rfl, bel.frame _, fun h => by cases h⟩

theorem over : Rows.fetchWaitsRow.holds Try.pinned (OpenSpec.ofChange Rows.fetchWaitsSpec) :=
  OpenClaim.holds_of_wide 5 Try.f5 rfl rfl rfl rfl rfl rfl rfl ⟨rfl, rfl, rfl, rfl, rfl⟩ rfl rfl rfl rfl rfl (by kernel_rfl) Try.func5 (by kernel_rfl)
    (of_decide_eq_true (by kernel_rfl)) (by unfold Func.isWrapper; first | (rw [if_pos (by decide +kernel)]; kernel_rfl) | (rw [if_neg (by decide +kernel)]; exact ⟨rfl, rfl⟩))
    (fun os started H enc _ => lifted os started H enc)

theorem proved : Rows.FetchWaitsSaid := over
#print axioms proved
end Go.Proofs.Ythjgmnafbikihaa.fetchWaits
