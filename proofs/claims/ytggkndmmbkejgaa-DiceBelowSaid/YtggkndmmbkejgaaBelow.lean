/-
  DiceBelow: what is drawn is below what it should be; the same number draws the same.
-/
import Derived.Test.YtggkndmmbkejgaaRows
import Derived.WalkKit
import Derived.ProofKit
import Derived.OpenShut
import Derived.ShutString
import Derived.ChangeOld
import Derived.Below
import Derived.Test.YtggkndmmbkejgaaDg
namespace Go.Proofs.Ytggkndmmbkejgaa.diceBelow
open Go.ChangeShapes Go.WideShapes Go.ChangeAt Go.RowKit
open Go.ChangeMaps (open_string shut_string)
set_option linter.unusedVariables false

theorem own : ownKnob Try.prog.godebug = none := by kernel_rfl
theorem laidOut : laidOutB Try.prog = true := by kernel_rfl

/-- WHAT THE WALK IS TOLD OF A SLICE OF INTEGERS THAT CAME IN: it is nil; or it leads to a row of 'cap' cells, the numbers 'zs' (the first 'len' are its elements, the rest its spare room), each fitting its kind. -/
def IsRow (k : IntKind) (w : World) (a : Option Addr) (len cap : Nat) (zs : List Int) : Prop :=
  (a = none ∧ len = 0 ∧ cap = 0 ∧ zs = []) ∨
  ∃ x, a = some x ∧ len ≤ cap ∧ cap ≤ maxLen ∧ zs.length = cap ∧ (∀ i, i < zs.length → w.cell? (x.add i) = some (.int k (zs.getD i 0))) ∧ ∀ n ∈ zs, (Lit.int k n).wf = true

set_option maxHeartbeats 800000 in
theorem walk (a0 : Int) (a1 : Option Addr) (len1 cap1 : Nat) (z1 : List Int) (w : World) (_w0 : (Lit.int .u64 a0).wf = true) (w1 : IsRow .i64 w a1 len1 cap1 z1) :
    Calls Try.prog 5 #[.int .u64 a0, .slice a1 len1 cap1] w fun e w' => e = .returned (.bool true) ∧ Below w.heap.size w w' := by
  clear _w0
  obtain ⟨hlc, hcm, hrow⟩ := row_cases w1
  clear w1
  have hlm : len1 ≤ 9223372036854775807 := by unfold maxLen at hcm; omega
  clear hcm
  by_cases hbig : 60 < len1
  · clear hrow
    go_enter Try.func5, Try.ntmps5
    go_wp2_with (first | (go_at_call 8; go_must (refine (awake_any _).mono ?_); rintro e w1 ⟨rfl, hb1⟩))
    go_ret
    exact ⟨rfl, hb1⟩
  · have hlen : len1 ≤ 60 := by omega
    clear hlm
    go_enter Try.func5, Try.ntmps5
    go_wp2_with (first | (go_at_call 8; go_must (refine (awake_any _).mono ?_); rintro e w1 ⟨rfl, hb1⟩))
    refine (new_any _ _).mono ?_
    rintro e w2 ⟨rfl, rfl⟩
    go_wp2_with fail
    refine (new_any _ _).mono ?_
    rintro e w2 ⟨rfl, rfl⟩
    have hsz := hb1.size
    have hB0 : Below w.heap.size w ((w1.alloc (.cells #[.int .u64 a0] 43)).alloc (.cells #[.int .u64 a0] 43)) := (hb1.alloc hb1.size _).alloc (by simp; omega) _
    have hDa : Die ((w1.alloc (.cells #[.int .u64 a0] 43)).alloc (.cells #[.int .u64 a0] 43)) w1.heap.size a0 := die_alloc (die_new _ _) _
    have hDb := die_new2 w1 (.cells #[.int .u64 a0] 43) a0
    go_wp2_with fail
    go_loopw [8] (fun iv wr => ∃ (k : Nat) (s : Int), k ≤ len1 ∧ iv = .int .i64 k ∧ Die wr w1.heap.size s ∧ Die wr (w1.heap.size + 1) s ∧ Below w.heap.size w wr)
      (fun iv _ => len1 - (intOf iv).toNat)
    case atStart => exact ⟨0, a0, Nat.zero_le _, rfl, hDa, hDb, hB0⟩
    case round =>
      clear hDa hDb hB0
      obtain ⟨k, s, hk, rfl, hda, hdb, hB⟩ := hrel
      by_cases hlt : k < len1
      · obtain ⟨b, off, rfl, hbl, hcell⟩ := hrow.resolve_left (by omega)
        obtain ⟨hc, hlo, hhi⟩ := hcell k hlt
        clear hcell
        have hcr : wr.cell? ⟨b, off + k, none⟩ = some (.int .i64 (z1.getD k 0)) := (hB.cell hbl).trans hc
        generalize z1.getD k 0 = n at hcr hlo hhi
        clear hc
        obtain ⟨x, s', hx0, hx1, hx2, hx3, -, -, HC⟩ := bel_ex s n hhi
        have hC1 := Lib.hid (HC.out _ _ hda)
        by_cases hn : n < 2
        · obtain rfl := hx2 hn
          clear hx0 hx1 hx2 hx3 hlo hhi
          by_cases hn1 : 1 ≤ n
          all_goals
            go_wp2_with fail
            refine hC1.out.mono ?_
            rintro e w3 ⟨rfl, hd3, hg3⟩
            have hdb3 := die_grown hdb hg3 (by omega)
            have hB3 := below_of_grown hB hg3 hsz
            have hcr3 : w3.cell? ⟨b, off + k, none⟩ = some (.int .i64 n) := hg3.cell hcr (by simp; omega)
            go_wp2_with fail
            refine (HC.out _ _ hdb3).mono ?_
            rintro e w4 ⟨rfl, hd4, hg4⟩
            have hda4 := die_grown hd3 hg4 (by omega)
            have hB4 := below_of_grown hB3 hg4 (by omega)
            have hcr4 : w4.cell? ⟨b, off + k, none⟩ = some (.int .i64 n) := hg4.cell hcr3 (by simp; omega)
            clear hd3 hdb3 hda hdb hcr hcr3 hB hB3 hg3 hg4
            go_wp2_with fail
            go_roundw
            case rel => exact ⟨k + 1, s', by omega, by go_num, hda4, hd4, hB4⟩
            case measure => simp [intOf]; omega
        · have hx5 := hx1 (by omega)
          clear hx1 hx2 hlo
          go_wp2_with fail
          refine hC1.out.mono ?_
          rintro e w3 ⟨rfl, hd3, hg3⟩
          have hdb3 := die_grown hdb hg3 (by omega)
          have hB3 := below_of_grown hB hg3 hsz
          have hcr3 : w3.cell? ⟨b, off + k, none⟩ = some (.int .i64 n) := hg3.cell hcr (by simp; omega)
          go_wp2_with fail
          refine (HC.out _ _ hdb3).mono ?_
          rintro e w4 ⟨rfl, hd4, hg4⟩
          have hda4 := die_grown hd3 hg4 (by omega)
          have hB4 := below_of_grown hB3 hg4 (by omega)
          have hcr4 : w4.cell? ⟨b, off + k, none⟩ = some (.int .i64 n) := hg4.cell hcr3 (by simp; omega)
          clear hd3 hdb3 hda hdb hcr hcr3 hB hB3 hg3 hg4
          go_wp2_with fail
          go_roundw
          case rel => exact ⟨k + 1, s', by omega, by go_num, hda4, hd4, hB4⟩
          case measure => simp [intOf]; omega
      · obtain rfl : k = len1 := by omega
        go_wp2_with fail
        refine (next_any _ _ _ hda.1 hda.2).mono ?_
        rintro e w3 ⟨rfl, rfl⟩
        have hdb3 := die_grown hdb (grown_set wr w1.heap.size (.int .u64 (nx s))) (by omega)
        have hB3 := below_of_grown hB (grown_set wr w1.heap.size (.int .u64 (nx s))) hsz
        go_wp2_with fail
        refine (next_any _ _ _ hdb3.1 hdb3.2).mono ?_
        rintro e w3 ⟨rfl, rfl⟩
        have hB4 := below_of_grown hB3 (grown_set _ (w1.heap.size + 1) (.int .u64 (nx s))) (by omega)
        go_wp2_with fail
        go_ret
        exact ⟨ret_bool (by simp), hB4⟩

set_option maxRecDepth 100000 in
theorem lifted (os : Os) (started : os.Started) (H : Type) (enc : TypeId × Value → H) :
    ReturnsInHanded {} Try.checked os 5 .any (Rows.diceBelowSpec.pre6 enc Try.prog Try.f5 Rows.diceBelowRow.domain false) (Rows.diceBelowSpec.post enc Try.prog Try.f5 false true false false) := by
  refine returnsInHanded_of_change (C := Try.checked) own started (by kernel_rfl) Try.func5
    (ChangeSpec.witness6 (enc := enc) (C := Try.checked) false ⟨#[], #[.int .u64 0, .slice none 0 0], []⟩ 8 (by kernel_rfl) (by kernel_rfl) (by kernel_rfl) (by kernel_rfl)) ?_
  intro W base args ds gs before hval0 hW hcnd _
  have hval : ∀ (j : Nat) t v, Try.f5.params[j]? = some t → args[j]? = some v → Value.okWide Try.prog W .any base t v := hval0
  have hW' := hW
  obtain ⟨p, q, hA0, hV, rfl, hfz, hnd⟩ := hW
  have hA : DataW.TrodAll enc Try.prog W 0 (fun _ => true) true Try.f5.params.toList args.toList ds p := hA0
  rw [Try.params5] at hA hval
  obtain ⟨v0, vs0, d0, ds0, p0, q0, hargs, rfl, rfl, h0, r0⟩ := trodAll_cons hA
  obtain ⟨v1, vs1, d1, ds1, p1, q1, rfl, rfl, rfl, h1, r1⟩ := trodAll_cons r0
  obtain ⟨rfl, rfl, rfl⟩ := trodAll_nil r1
  obtain rfl : args = #[v0, v1] := by cases args; simp_all
  obtain ⟨rfl, rfl⟩ := trodVars_none hV
  obtain ⟨a0, rfl, rfl, rfl, w0⟩ := open_int Try.underlying22 (hval 0 22 v0 rfl rfl) h0
  obtain ⟨a1, len1, cap1, rfl⟩ := okWide_slice Try.underlying23 (hval 1 23 v1 rfl rfl)
  have k1 := h1
  have lt1 : ∀ x ∈ p1, x.block < W.heap.size := by obtain ⟨m, hm⟩ := k1; exact DataW.trod_lt m _ _ _ hm
  obtain ⟨z1, w1⟩ : ∃ zs, IsRow .i64 W a1 len1 cap1 zs := by
    obtain ⟨fuel, hf⟩ := h1
    rcases open_ints Try.underlying23 Try.underlying3 (by kernel_rfl) hf with ⟨hcs, _⟩ | ⟨x, l, c, zs, hcs, _, hl, hm, hz, _, hcell, hwz⟩
    · simp [Value.cells] at hcs
      obtain ⟨rfl, rfl, rfl⟩ := hcs
      exact ⟨[], .inl ⟨rfl, rfl, rfl, rfl⟩⟩
    · simp [Value.cells] at hcs
      obtain ⟨rfl, rfl, rfl⟩ := hcs
      exact ⟨zs, .inr ⟨_, rfl, hl, hm, by simpa using hz, hcell, hwz⟩⟩
  clear hA0 hval0
  refine (walk a0 a1 len1 cap1 z1 W w0 w1).mono fun e W' ⟨he, bel⟩ => ?_
  subst he
  exact ⟨_, rfl, _, _, _, [], _, [], hW', trodAll_mk1 (shut_bool Try.underlying4 _), (trodAll_cons_mk (shut_int Try.underlying22 w0) (trodAll_cons_mk (Below.trod laidOut (by kernel_rfl) (of_decide_eq_true (by kernel_rfl)) k1 bel lt1) trodAll_mk0)), rfl, bel.frame _, fun h => by cases h⟩

theorem over : Rows.diceBelowRow.holds Try.pinned (OpenSpec.ofChange Rows.diceBelowSpec) :=
  OpenClaim.holds_of_wide 5 Try.f5 rfl rfl rfl rfl rfl rfl rfl ⟨rfl, rfl, rfl, rfl, rfl⟩ rfl rfl rfl rfl rfl (by kernel_rfl) Try.func5 (by kernel_rfl)
    (of_decide_eq_true (by kernel_rfl)) (by unfold Func.isWrapper; first | (rw [if_pos (by decide +kernel)]; kernel_rfl) | (rw [if_neg (by decide +kernel)]; exact ⟨rfl, rfl⟩))
    (fun os started H enc _ => lifted os started H enc)

theorem proved : Rows.DiceBelowSaid := over
#print axioms proved
end Go.Proofs.Ytggkndmmbkejgaa.diceBelow
