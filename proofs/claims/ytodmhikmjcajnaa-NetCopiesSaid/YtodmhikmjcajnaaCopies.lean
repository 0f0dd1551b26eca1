/-
  NetCopies: what is copied is under way twice, as it was; what is taken once less.
-/
import Derived.Test.YtodmhikmjcajnaaRows
import Derived.WalkKit
import Derived.ProofKit
import Derived.OpenShut
import Derived.ShutString
import Derived.ChangeOld
import Derived.Below
import Derived.Deep.Matrix
import Derived.Test.YtodmhikmjcajnaaNk
namespace Go.Proofs.Ytodmhikmjcajnaa.netCopies
open Go.ChangeShapes Go.WideShapes Go.ChangeAt Go.RowKit
open Go.ChangeMaps (open_string shut_string)
set_option linter.unusedVariables false

theorem own : ownKnob Try.prog.godebug = none := by kernel_rfl
theorem laidOut : laidOutB Try.prog = true := by kernel_rfl

/-- a slice of integers that came in: nil, or a row of 'cap' cells, the numbers 'zs', each fitting its kind. -/
def IsRow (k : IntKind) (w : World) (a : Option Addr) (len cap : Nat) (zs : List Int) : Prop :=
  (a = none ∧ len = 0 ∧ cap = 0 ∧ zs = []) ∨
  ∃ x, a = some x ∧ len ≤ cap ∧ cap ≤ maxLen ∧ zs.length = cap ∧ (∀ i, i < zs.length → w.cell? (x.add i) = some (.int k (zs.getD i 0))) ∧ ∀ n ∈ zs, (Lit.int k n).wf = true

/-- a slice of slices of integers that came in. -/
def IsRows (k : IntKind) (w : World) (a : Option Addr) (len cap : Nat) (A : Nat → Option Addr) (L C : Nat → Nat) (Z : Nat → List Int) : Prop :=
  (a = none ∧ len = 0 ∧ cap = 0) ∨
  ∃ x, a = some x ∧ len ≤ cap ∧ cap ≤ maxLen ∧ ∀ r, r < cap → w.cell? (x.add r) = some (.slice (A r) (L r) (C r)) ∧ L r ≤ C r ∧ C r ≤ maxLen ∧ (Z r).length = C r ∧ (∀ n ∈ Z r, (Lit.int k n).wf = true) ∧ (A r = none → C r = 0) ∧
    ∀ a', A r = some a' → ∀ c, c < C r → w.cell? (a'.add c) = some (.int k ((Z r).getD c 0))

set_option maxRecDepth 100000 in
set_option maxHeartbeats 1000000 in
theorem walk (a0 : Option Addr) (len0 cap0 : Nat) (A0 : Nat → Option Addr) (L0 C0 : Nat → Nat) (Z0 : Nat → List Int) (a1 : Option Addr) (len1 cap1 : Nat) (z1 : List Int) (w : World) (w0 : IsRows .u8 w a0 len0 cap0 A0 L0 C0 Z0) (w1 : IsRow .u8 w a1 len1 cap1 z1) :
    Calls Try.prog 4 #[.slice a0 len0 cap0, .slice a1 len1 cap1] w fun e w' => e = .returned (.bool true) ∧ Below w.heap.size w w' := by
  obtain ⟨hlm, hrow⟩ := rows_cases w0
  obtain ⟨hlm1, hat⟩ := row_at w1
  clear w0 w1
  by_cases hbig : 20 < len0
  · clear hrow hat
    go_enter Try.func4, Try.ntmps4
    go_wp2_with (first | (go_at_call 7; go_must (refine (awake_any _).mono ?_); rintro e w1 ⟨rfl, hb1⟩))
    go_ret
    exact ⟨rfl, hb1⟩
  · have hlen : len0 ≤ 20 := by omega
    clear hlm
    by_cases hbig1 : 40 < len1
    · clear hrow hat
      go_enter Try.func4, Try.ntmps4
      go_wp2_with (first | (go_at_call 7; go_must (refine (awake_any _).mono ?_); rintro e w1 ⟨rfl, hb1⟩))
      go_ret
      exact ⟨rfl, hb1⟩
    · have hlen1 : len1 ≤ 40 := by omega
      clear hlm1
      have HR := Lib.hid hrow
      have HAT := Lib.hid hat
      clear hrow hat
      obtain ⟨i0, hi, hz0, hz1, hz2⟩ := info_parts info9
      go_enter Try.func4, Try.ntmps4
      go_wp2_with (first | (go_at_call 7; go_must (refine (awake_any _).mono ?_); rintro e w1 ⟨rfl, hb1⟩))
      refine (new_ok 200 w1 (by omega) (by omega)).mono ?_
      rintro e w2 ⟨rfl, hnet, hB1⟩
      have hzb := hb1.size
      have hB2 : Below w.heap.size w w2 := hb1.trans (hB1.mono hb1.size)
      have H0 : Hid (∃ (S : Nat → Prop) (ms : List Mail), ms.length = 0 ∧ Cop w w2 w1.heap.size S ms (.slice none 0 0)) :=
        ⟨_, [], rfl, hnet, (fun m hm => by cases hm), World.ownsRow_nil _ _ _ _, (fun g e => by simp [Value.ownBlock] at e), (fun x hx => by have h' : x = w1.heap.size := hx; omega), hB2⟩
      clear hnet hB1 hb1 hB2
      go_wp2_with fail
      go_loopw [8, 9] (fun wv iv wr => ∃ i : Nat, i ≤ len0 ∧ iv = .int .i64 i ∧ Hid (∃ (S : Nat → Prop) (ms : List Mail), ms.length = i ∧ Cop w wr w1.heap.size S ms wv))
        (fun _ iv _ => len0 - (intOf iv).toNat)
      case atStart => exact ⟨0, Nat.zero_le _, rfl, H0⟩
      case round =>
        clear H0
        obtain ⟨i, hi0, rfl, H⟩ := hrel
        by_cases hlt : i < len0
        · obtain ⟨b, off, rfl, hbl, hcell⟩ := HR.out.resolve_left (by omega)
          obtain ⟨hc, hLC, hLm, hr, hd⟩ := hcell i hlt
          obtain ⟨S, ms, hml, hC⟩ := H.out
          have hB := hC.below
          clear hcell H hd hLC
          have hcr : wr.cell? ⟨b, off + i, none⟩ = some (.slice (A0 i) (L0 i) (C0 i)) := (hB.cell hbl).trans hc
          by_cases hL : 50 < L0 i
          · clear hr hc hC hml
            go_wp2_with fail
            go_ret
            exact ⟨rfl, hB⟩
          · have hL50 : L0 i ≤ 50 := by omega
            have hrr := (hr.below hB).more hB.size
            have HP := Lib.hid (post_ok w1.heap.size S 200 0 ms wr hC.net 0 0 (A0 i) (L0 i) (C0 i) (dataOf L0 Z0 i) hrr hL50 rfl (by omega) (by omega))
            have HM := Lib.hid hml
            have HC := Lib.hid hC
            have HB := Lib.hid hB
            have HRD := Lib.hid hr
            have HCC := Lib.hid hc
            clear hml hC hB hrr hr hc
            go_wp2_with fail
            refine HP.out.mono ?_
            rintro e w3 ⟨rfl, S3, hnet3, hS3, hK3⟩
            have hC := HC.out
            have hB3 := hK3.below hC.below hC.low
            have hw3 := want_keeps hC.want hC.apart hK3
            have ha3 := apart_more hC.want hC.apart hS3
            have hlow3 : ∀ x, S3 x → w.heap.size ≤ x := fun x hx => by
              have := HB.out.size
              rcases hS3 x hx with h | h
              · exact hC.low x h
              · omega
            have hcr3 : w3.cell? ⟨b, off + i, none⟩ = some (.slice (A0 i) (L0 i) (C0 i)) := (hB3.cell hbl).trans HCC.out
            have hcv : (convert 28 9 (.slice (A0 i) (L0 i) (C0 i))).run Try.prog w3 = .ok (.string (strD (dataOf L0 Z0 i))) w3 := conv_reads _ _ _ _ _ _ (HRD.out.below hB3)
            rw [HM.out] at hw3
            have HN3 := Lib.hid hnet3
            have HA3 := Lib.hid ha3
            have HL3 := Lib.hid hlow3
            have HB3 := Lib.hid hB3
            have hz3 := hB3.size
            clear hC hnet3 hS3 hK3 ha3 hlow3 hB3 hcr
            go_wp2_with (at_builtin; go_must (refine wpList_append_any _ rfl (.tmp 60) (.tmp 66) _ rfl w.heap.size 9 i0 _ 1 16 Try.underlying36 hi hz0 hz1 hz2 rfl (by omega) u8 i (strs ms) rfl (hw3.alloc _) (w3.heap.size + 1) (some ⟨w3.heap.size, 0, none⟩) 1 1 [.string (strD (dataOf L0 Z0 i))] rfl (reads_str _ _) (str_one _) ?c3 ?c4 ?c5 ?_))
            case c3 => unfold maxLen; omega
            case c4 => omega
            case c5 => simp; omega
            intro v4 w4 ho4 hg4 hb4
            have R : Hid (∃ (S : Nat → Prop) (ms : List Mail), ms.length = i + 1 ∧ Cop w w4 w1.heap.size S ms v4) := by
              have hl : (ms ++ [(⟨0, 0, dataOf L0 Z0 i⟩ : Mail)]).length = i + 1 := by rw [List.length_append, HM.out]; rfl
              refine ⟨S3, ms ++ [(⟨0, 0, dataOf L0 Z0 i⟩ : Mail)], hl, cop_append HN3.out (fun m hm => ?_) HB3.out HL3.out hw3 HA3.out hg4 (by rw [hl, strs_snoc]; exact ho4) hb4 (by simp)⟩
              rcases List.mem_append.1 hm with h | h
              · exact HC.out.node m h
              · simp at h; subst h; exact ⟨rfl, rfl⟩
            clear ho4 hg4 hb4 hw3 hcr3 hcv
            go_wp2
            go_roundw
            case rel => exact ⟨i + 1, by omega, by go_num, R⟩
            case measure => simp [intOf]; omega
        · obtain rfl : i = len0 := by omega
          have H1 : Hid (∃ (S : Nat → Prop) (ms : List Mail), ms.length ≤ 20 + 0 ∧ Cop w wr w1.heap.size S ms u8) := by
            obtain ⟨S, ms, h1, h2⟩ := H.out
            exact ⟨S, ms, by omega, h2⟩
          clear H
          go_wp2_with fail
          go_loopw [8, 10] (fun wv iv wi => ∃ i : Nat, i ≤ len1 ∧ iv = .int .i64 i ∧ Hid (∃ (S : Nat → Prop) (ms : List Mail), ms.length ≤ 20 + i ∧ Cop w wi w1.heap.size S ms wv))
            (fun _ iv _ => len1 - (intOf iv).toNat)
          case atStart => exact ⟨0, Nat.zero_le _, rfl, H1⟩
          case round =>
            clear H1
            obtain ⟨j, hj0, rfl, H⟩ := hrel
            obtain ⟨S, ms, hml, hC⟩ := H.out
            clear H
            obtain ⟨A, c, rfl, hnc, hcm, hA⟩ := own_slice hC.want
            have hBc := hC.below
            by_cases hjl : j < len1
            · by_cases hn0 : 0 < ms.length
              · obtain ⟨b, off, v, rfl, hbl, hcell, hv0, hv1⟩ := HAT.out j hjl
                have hcr : wr.cell? ⟨b, off + j, none⟩ = some (.int .u8 v) := (hBc.cell hbl).trans hcell
                clear hcell
                obtain ⟨k, hk⟩ : ∃ k : Nat, v / 2 % (ms.length : Int) = (k : Int) := ⟨(v / 2 % (ms.length : Int)).toNat, by have := Int.emod_nonneg (v / 2) (b := (ms.length : Int)) (by omega); omega⟩
                have hkn : k < ms.length := by have := Int.emod_lt_of_pos (v / 2) (b := (ms.length : Int)) (by omega); omega
                obtain ⟨g, rfl⟩ := hA hn0
                have hwc : wr.cell? ⟨g, k, none⟩ = some (.string (strD ms[k].d)) := by
                  rw [hC.want.cellAt k (by omega)]; exact strs_get hkn
                have hlim : ms.length ≤ 60 := by omega
                have HC := Lib.hid hC
                have HM := Lib.hid hml
                have hzz := hBc.size
                clear hC hml hA
                have hnode : (node ms[k].f && node ms[k].t) = true := by
                  obtain ⟨e1, e2⟩ := HC.out.node ms[k] (List.getElem_mem hkn)
                  rw [e1, e2]; rfl
                obtain ⟨D, hD⟩ : ∃ D, ms[k].d = D := ⟨_, rfl⟩
                rw [hD] at hwc
                have HD := Lib.hid hD
                clear hD
                by_cases hbit : (bits .and .u8 v 1 == 0) = true
                · have HP := Lib.hid (copy_ok w1.heap.size S 200 0 k ms wr HC.out.net hkn hnode (by omega) (by omega))
                  clear hnode
                  go_wp2_with fail
                  rw [hk]
                  refine HP.out.mono ?_
                  rintro e w3 ⟨rfl, S3, hnet3, hS3, hK3⟩
                  have hC := HC.out
                  have hB3 := hK3.below hC.below hC.low
                  have hw3 := want_keeps hC.want hC.apart hK3
                  have ha3 := apart_more hC.want hC.apart hS3
                  have hlow3 : ∀ x, S3 x → w.heap.size ≤ x := fun x hx => by
                    rcases hS3 x hx with h | h
                    · exact hC.low x h
                    · omega
                  have hwc3 : w3.cell? ⟨g, k, none⟩ = some (.string (strD D)) := by
                    rw [hw3.cellAt k (by omega), strs_get hkn, HD.out]
                  have HN3 := Lib.hid hnet3
                  have HA3 := Lib.hid ha3
                  have HL3 := Lib.hid hlow3
                  have HB3 := Lib.hid hB3
                  have hz3 := hB3.size
                  clear hC hnet3 hS3 hK3 ha3 hlow3 hB3 hcr hwc hk
                  go_wp2_with (at_builtin; go_must (refine wpList_append_any _ rfl (.tmp 98) (.tmp 103) _ rfl w.heap.size 9 i0 _ 1 16 Try.underlying36 hi hz0 hz1 hz2 rfl (by omega) (.slice (some ⟨g, 0, none⟩) ms.length c) ms.length (strs ms) rfl (hw3.alloc _) (w3.heap.size + 1) (some ⟨w3.heap.size, 0, none⟩) 1 1 [.string (strD D)] rfl (reads_str _ _) (str_one _) ?c3 ?c4 ?c5 ?_))
                  case c3 => unfold maxLen; omega
                  case c4 => omega
                  case c5 => simp; omega
                  intro v4 w4 ho4 hg4 hb4
                  have R : Hid (∃ (S : Nat → Prop) (ms : List Mail), ms.length ≤ 20 + (j + 1) ∧ Cop w w4 w1.heap.size S ms v4) := by
                    have hl : (ms ++ [ms[k]]).length = ms.length + 1 := by simp
                    refine ⟨S3, ms ++ [ms[k]], by have := HM.out; omega, cop_append HN3.out (fun m hm => ?_) HB3.out HL3.out hw3 HA3.out hg4 (by rw [hl, strs_snoc, HD.out]; exact ho4) hb4 (by simp)⟩
                    rcases List.mem_append.1 hm with h | h
                    · exact HC.out.node m h
                    · simp at h; subst h; exact HC.out.node _ (List.getElem_mem hkn)
                  clear ho4 hg4 hb4 hw3 hwc3
                  go_wp2
                  go_roundw
                  case rel => exact ⟨j + 1, by omega, by go_num, R⟩
                  case measure => simp [intOf]; omega
                · have hbit' : (bits .and .u8 v 1 == 0) = false := by simpa using hbit
                  clear hbit hnode
                  have HP := Lib.hid (take_any w1.heap.size S 200 0 k ms wr HC.out.net hkn (by omega))
                  go_wp2_with fail
                  rw [hk]
                  refine HP.out.mono ?_
                  rintro e w3 ⟨Ad, nd, cd, rfl, hr3, -, -, hnet3, hK3⟩
                  rw [HD.out] at hr3
                  have hC := HC.out
                  have hB3 := hK3.below hC.below hC.low
                  have hw3 := want_keeps hC.want hC.apart hK3
                  generalize ms[k].f = f1
                  generalize ms[k].t = t1
                  have hr4 := hr3.alloc (Nat.le_refl _) (.cells #[.int .i64 f1, .int .i64 t1, .slice Ad nd cd] 31)
                  have hcv : ∀ nq, (convert 28 9 (.slice Ad nd cd)).run Try.prog ((w3.alloc (.cells #[.int .i64 f1, .int .i64 t1, .slice Ad nd cd] 31)).drewN nq) = .ok (.string (strD D)) _ := fun nq => conv_reads Ad nd cd _ _ _ (hr4.drewN nq)
                  have hw4 := hw3.alloc (.cells #[.int .i64 f1, .int .i64 t1, .slice Ad nd cd] 31)
                  have hwc4 : (w3.alloc (.cells #[.int .i64 f1, .int .i64 t1, .slice Ad nd cd] 31)).cell? ⟨g, k, none⟩ = some (.string (strD D)) := by
                    rw [hw4.cellAt k (by omega), strs_get hkn, HD.out]
                  have hnet4 := hnet3.below ((Below.refl _ w3).alloc (Nat.le_refl _) (.cells #[.int .i64 f1, .int .i64 t1, .slice Ad nd cd] 31))
                  have hB4 := hB3.alloc hB3.size (.cells #[.int .i64 f1, .int .i64 t1, .slice Ad nd cd] 31)
                  have HN4 := Lib.hid hnet4
                  have HB4 := Lib.hid hB4
                  have HW4 := Lib.hid hw4
                  clear hC hr3 hr4 hB3 hw3 hw4 hnet3 hnet4 hB4 hK3 hcr hwc hk
                  have hkn' : (k : Int) < (ms.length : Int) := by omega
                  go_wp2_with fail
                  go_quiet (fail)
                  have hN5 := HN4.out.drewN nq
                  have hB5 : Below w.heap.size w ((w3.alloc (.cells #[.int .i64 f1, .int .i64 t1, .slice Ad nd cd] 31)).drewN nq) := ⟨HB4.out.os, HB4.out.tape, HB4.out.output, HB4.out.size, HB4.out.block⟩
                  have hw5 : ((w3.alloc (.cells #[.int .i64 f1, .int .i64 t1, .slice Ad nd cd] 31)).drewN nq).ownsRow w.heap.size 9 1 (.slice (some ⟨g, 0, none⟩) ms.length c) ms.length (strs ms) := HW4.out
                  generalize (w3.alloc (.cells #[.int .i64 f1, .int .i64 t1, .slice Ad nd cd] 31)).drewN nq = W5 at hN5 hB5 hw5 ⊢
                  have hr5 := Reads.of_own hw5
                  have HN5 := Lib.hid hN5
                  have HB5 := Lib.hid hB5
                  have hzW := hB5.size
                  have hkc : (k : Int) ≤ (c : Int) := by omega
                  have hkc1 : (k : Int) + 1 ≤ (c : Int) := by omega
                  have hk0 : (0 : Int) ≤ (k : Int) + 1 := by omega
                  have hkn1 : (k : Int) + 1 ≤ (ms.length : Int) := by omega
                  clear hN5 hB5 HW4 hwc4 hcv
                  go_wp2_with (at_builtin; go_must (refine wpList_append_any _ rfl (.tmp 123) (.tmp 126) _ rfl W5.heap.size 9 i0 _ 1 16 Try.underlying36 hi hz0 hz1 hz2 rfl (by omega) (.slice none 0 0) 0 [] rfl (World.ownsRow_nil _ _ _ _) W5.heap.size (some ⟨g, 0, none⟩) k c ((strs ms).take k) rfl (reads_take' hr5 (by omega)) (fun u hu => strs_one ms u (List.mem_of_mem_take hu)) ?c3 ?c4 (Nat.le_refl _) ?_))
                  case c3 => unfold maxLen; omega
                  case c4 => omega
                  intro v6 w6 ho6 hg6 _
                  have hw6 := hw5.kept hg6 (.inr (by simp [Value.ownBlock]))
                  have hr6 := Reads.of_own hw6
                  have hz6 : W5.heap.size ≤ w6.heap.size := hg6.size
                  by_cases hck : c = k + 1
                  all_goals
                    first | subst hck | skip
                    go_wp2_with (at_builtin; go_must (refine wpList_append_any _ rfl (.tmp 128) (.tmp 132) _ rfl W5.heap.size 9 i0 _ 1 16 Try.underlying36 hi hz0 hz1 hz2 rfl (by omega) v6 k ((strs ms).take k) rfl ho6 w6.heap.size _ _ _ ((strs ms).drop (k + 1)) rfl ?cr (fun u hu => strs_one ms u (List.mem_of_mem_drop hu)) ?c3 ?c4 hz6 ?_))
                    case cr => first | exact reads_drop' hr6 ⟨rfl, Nat.le_refl _⟩ | exact ⟨by simp [strs]; omega, fun h => absurd h (by omega)⟩
                    case c3 => unfold maxLen; omega
                    case c4 => omega
                    intro v7 w7 ho7 hg7 _
                    have R : Hid (∃ (S : Nat → Prop) (ms : List Mail), ms.length ≤ 20 + (j + 1) ∧ Cop w w7 w1.heap.size S ms v7) := by
                      refine ⟨S, ms.take k ++ ms.drop (k + 1), ?_, cop_cut HN5.out HC.out.node HB5.out HC.out.low hg6 ho6 hg7 ho7 (by omega) hkn⟩
                      have := HM.out
                      rw [List.length_append, List.length_take, List.length_drop]; omega
                    clear ho7 hg7
                    go_wp2
                    go_roundw
                    case rel => exact ⟨j + 1, by omega, by go_num, R⟩
                    case measure => simp [intOf]; omega
              · have hn0' : (ms.length : Int) ≤ 0 := by omega
                have hjl' : (j : Int) < (len1 : Int) := by omega
                have HL := Lib.hid (len_any _ _ _ _ _ _ hC.net)
                have HO := Lib.hid (lost_any _ _ _ _ _ _ hC.net)
                have HC0 := Lib.hid (copy_no w1.heap.size S 200 0 (ms.length : Int) ms wr hC.net (by omega))
                clear hC
                go_wp2_with fail
                refine HL.out.mono ?_
                rintro e w3 ⟨rfl, hw⟩
                obtain rfl := hw.symm
                go_wp2_with fail
                refine HO.out.mono ?_
                rintro e w3 ⟨rfl, hw⟩
                obtain rfl := hw.symm
                go_wp2_with fail
                refine HC0.out.mono ?_
                rintro e w3 ⟨rfl, hw⟩
                obtain rfl := hw.symm
                go_wp2_with fail
                go_ret
                exact ⟨ret_bool (by simp), hBc⟩
            · have hjl' : (len1 : Int) ≤ (j : Int) := by omega
              have HL := Lib.hid (len_any _ _ _ _ _ _ hC.net)
              have HO := Lib.hid (lost_any _ _ _ _ _ _ hC.net)
              have HC0 := Lib.hid (copy_no w1.heap.size S 200 0 (ms.length : Int) ms wr hC.net (by omega))
              clear hC
              go_wp2_with fail
              refine HL.out.mono ?_
              rintro e w3 ⟨rfl, hw⟩
              obtain rfl := hw.symm
              go_wp2_with fail
              refine HO.out.mono ?_
              rintro e w3 ⟨rfl, hw⟩
              obtain rfl := hw.symm
              go_wp2_with fail
              refine HC0.out.mono ?_
              rintro e w3 ⟨rfl, hw⟩
              obtain rfl := hw.symm
              go_wp2_with fail
              go_ret
              exact ⟨ret_bool (by simp), hBc⟩

set_option maxRecDepth 100000 in
theorem lifted (os : Os) (started : os.Started) (H : Type) (enc : TypeId × Value → H) :
    ReturnsInHanded {} Try.checked os 4 .any (Rows.netCopiesSpec.pre6 enc Try.prog Try.f4 Rows.netCopiesRow.domain false) (Rows.netCopiesSpec.post enc Try.prog Try.f4 false true false false) := by
  refine returnsInHanded_of_change (C := Try.checked) own started (by kernel_rfl) Try.func4
    (ChangeSpec.witness6 (enc := enc) (C := Try.checked) false ⟨#[], #[.slice none 0 0, .slice none 0 0], []⟩ 8 (by kernel_rfl) (by kernel_rfl) (by kernel_rfl) (by kernel_rfl)) ?_
  intro W base args ds gs before hval0 hW hcnd _
  have hval : ∀ (j : Nat) t v, Try.f4.params[j]? = some t → args[j]? = some v → Value.okWide Try.prog W .any base t v := hval0
  have hW' := hW
  obtain ⟨p, q, hA0, hV, rfl, hfz, hnd⟩ := hW
  have hA : DataW.TrodAll enc Try.prog W 0 (fun _ => true) true Try.f4.params.toList args.toList ds p := hA0
  rw [Try.params4] at hA hval
  obtain ⟨v0, vs0, d0, ds0, p0, q0, hargs, rfl, rfl, h0, r0⟩ := trodAll_cons hA
  obtain ⟨v1, vs1, d1, ds1, p1, q1, rfl, rfl, rfl, h1, r1⟩ := trodAll_cons r0
  obtain ⟨rfl, rfl, rfl⟩ := trodAll_nil r1
  obtain rfl : args = #[v0, v1] := by cases args; simp_all
  obtain ⟨rfl, rfl⟩ := trodVars_none hV
  obtain ⟨a0, len0, cap0, rfl⟩ := okWide_slice Try.underlying22 (hval 0 22 v0 rfl rfl)
  have k0 := h0
  have lt0 : ∀ x ∈ p0, x.block < W.heap.size := by obtain ⟨m, hm⟩ := k0; exact DataW.trod_lt m _ _ _ hm
  obtain ⟨A0, L0, C0, Z0, w0⟩ : ∃ A L C Z, IsRows .u8 W a0 len0 cap0 A L C Z := by
    obtain ⟨fuel, hf⟩ := h0
    rcases Go.Deep.open_int_rows Try.underlying22 Try.underlying28 Try.underlying5 (by kernel_rfl) (by kernel_rfl) hf with ⟨hcs, _⟩ | ⟨x, l, c, A, L, C, Z, hcs, _, hl, hm, _, hr⟩
    · simp [Value.cells] at hcs
      obtain ⟨rfl, rfl, rfl⟩ := hcs
      exact ⟨fun _ => none, fun _ => 0, fun _ => 0, fun _ => [], .inl ⟨rfl, rfl, rfl⟩⟩
    · simp [Value.cells] at hcs
      obtain ⟨rfl, rfl, rfl⟩ := hcs
      exact ⟨A, L, C, Z, .inr ⟨_, rfl, hl, hm, fun r hr' => by obtain ⟨h1, h2, h3, h4, h5, h6, h7⟩ := hr r hr'; exact ⟨h1, h2, h3, h4, h5, h6, fun a' ha' => (h7 a' ha').2⟩⟩⟩
  obtain ⟨a1, len1, cap1, rfl⟩ := okWide_slice Try.underlying28 (hval 1 28 v1 rfl rfl)
  have k1 := h1
  have lt1 : ∀ x ∈ p1, x.block < W.heap.size := by obtain ⟨m, hm⟩ := k1; exact DataW.trod_lt m _ _ _ hm
  obtain ⟨z1, w1⟩ : ∃ zs, IsRow .u8 W a1 len1 cap1 zs := by
    obtain ⟨fuel, hf⟩ := h1
    rcases open_ints Try.underlying28 Try.underlying5 (by kernel_rfl) hf with ⟨hcs, _⟩ | ⟨x, l, c, zs, hcs, _, hl, hm, hz, _, hcell, hwz⟩
    · simp [Value.cells] at hcs
      obtain ⟨rfl, rfl, rfl⟩ := hcs
      exact ⟨[], .inl ⟨rfl, rfl, rfl, rfl⟩⟩
    · simp [Value.cells] at hcs
      obtain ⟨rfl, rfl, rfl⟩ := hcs
      exact ⟨zs, .inr ⟨_, rfl, hl, hm, by simpa using hz, hcell, hwz⟩⟩
  clear hA0 hval0
  refine (walk a0 len0 cap0 A0 L0 C0 Z0 a1 len1 cap1 z1 W w0 w1).mono fun e W' ⟨he, bel⟩ => ?_
  subst he
  exact ⟨_, rfl, _, _, _, [], _, [], hW', trodAll_mk1 (shut_bool Try.underlying4 _), (trodAll_cons_mk (Below.trod laidOut (by kernel_rfl) (of_decide_eq_true (by kernel_rfl)) k0 bel lt0) (trodAll_cons_mk (Below.trod laidOut (by kernel_rfl) (of_decide_eq_true (by kernel_rfl)) k1 bel lt1) trodAll_mk0)), rfl, bel.frame _, fun h => by cases h⟩

theorem over : Rows.netCopiesRow.holds Try.pinned (OpenSpec.ofChange Rows.netCopiesSpec) :=
  OpenClaim.holds_of_wide 4 Try.f4 rfl rfl rfl rfl rfl rfl rfl ⟨rfl, rfl, rfl, rfl, rfl⟩ rfl rfl rfl rfl rfl (by kernel_rfl) Try.func4 (by kernel_rfl)
    (of_decide_eq_true (by kernel_rfl)) (by unfold Func.isWrapper; first | (rw [if_pos (by decide +kernel)]; kernel_rfl) | (rw [if_neg (by decide +kernel)]; exact ⟨rfl, rfl⟩))
    (fun os started H enc _ => lifted os started H enc)

theorem proved : Rows.NetCopiesSaid := over
#print axioms proved
end Go.Proofs.Ytodmhikmjcajnaa.netCopies
