/-
  FetchOrder: what is asked for at a tick is told in order, each once; for every seed and every row of wants, without conditions; what the caller can reach lies as it did.
-/
import Derived.Test.YthjgmnafbikihaaRows
import Derived.WalkKit
import Derived.ProofKit
import Derived.OpenShut
import Derived.ShutString
import Derived.ChangeOld
import Derived.Below
import Derived.Test.YthjgmnafbikihaaFu
namespace Go.Proofs.Ythjgmnafbikihaa.fetchOrder
open Go.ChangeShapes Go.WideShapes Go.ChangeAt Go.RowKit
open Go.ChangeMaps (open_string shut_string)
set_option linter.unusedVariables false
set_option linter.unusedSimpArgs false

theorem own : ownKnob Try.prog.godebug = none := by kernel_rfl
theorem laidOut : laidOutB Try.prog = true := by kernel_rfl

open Go.Sort Go.Maps in
theorem row_at {w : World} {base n c i : Nat} {A : Option Addr} {ss : List WS} (h : w.ownsRow base 35 66 (.slice A n c) n (wrow ss)) (hn : ss.length = n) (hi : i < n) :
    ∃ kb, A = some ⟨kb, 0, none⟩ ∧ kb < w.heap.size ∧ w.rangeAt kb (i * 66) (encS (ss.getD i default)) := by
  rcases h.2 with ⟨hv, h0⟩ | ⟨kb, cap, cur, hv, _, hb, r1, r2, r3, r4⟩
  · omega
  · injection hv with hA
    refine ⟨kb, hA, (Array.getElem?_eq_some_iff.1 hb).1, fun j v hv => ?_⟩
    have hj : j < 66 := by
      have := (List.getElem?_eq_some_iff.1 hv).1
      have h1 : (encS (ss.getD i default)).length = 66 := wcells_length (ss.getD i default).2
      omega
    have e1 := wrow_get (ss := ss) (i := i) (show i < ss.length by omega) hj
    rw [hv, ← r4, List.getElem?_take_of_lt (show i * 66 + j < n * 66 by omega), Array.getElem?_toList] at e1
    simp [World.cell?, hb, e1]
theorem size_at {w : World} {b o : Nat} {x : WS} (h : w.rangeAt b o (encS x)) : w.cell? ⟨b, o, none⟩ = some (.int .u64 x.1.1.1) := h 0 _ rfl

theorem exec_load {o : Oper} {a : Act} {t : TypeId} {x : Operand} {addr v : Value} {w : World} (ho : o.op = .load t x) (hx : a.eval x = addr) (hl : (Instr.loadAt t addr).run Try.prog w = .ok v w) : (execOp a.eval o).run Try.prog w = .ok (.value v) w := by
  unfold execOp
  simp only [ho, hx, Sem.run_bind, hl, Result.andThen_ok]
  rfl
theorem exec_eql {o : Oper} {a : Act} {u v : Operand} {x y : WS} {cs ds : Array Value} (ho : o.op = .binOp .eql 35 u v 35) (hu : a.eval u = .agg cs) (hv : a.eval v = .agg ds) (hx : wv x = .agg cs) (hy : wv y = .agg ds) (q : Bool) (hq : decide (x = y) = q) (w : World) :
    (execOp a.eval o).run Try.prog w = .ok (.value (.bool q)) w := by
  have h := eql_wv x y w
  rw [hx, hy, hq] at h
  unfold execOp
  simp only [ho, hu, hv, Sem.run_bind, run_eqGuard_agg _ _ _ _ _ _ _ guard35, Result.andThen_ok, h]
  rfl
theorem exec_neq {o : Oper} {a : Act} {u v : Operand} {x y : WS} {cs ds : Array Value} (ho : o.op = .binOp .neq 35 u v 35) (hu : a.eval u = .agg cs) (hv : a.eval v = .agg ds) (hx : wv x = .agg cs) (hy : wv y = .agg ds) (q : Bool) (hq : (!decide (x = y)) = q) (w : World) :
    (execOp a.eval o).run Try.prog w = .ok (.value (.bool q)) w := by
  have h := neq_wv x y w
  rw [hx, hy, hq] at h
  unfold execOp
  simp only [ho, hu, hv, Sem.run_bind, run_eqGuard_agg _ _ _ _ _ _ _ guard35, Result.andThen_ok, h]
  rfl
open Go.Sort Go.Maps in
theorem less_at {E : En} {k i : Nat} (h : Srt E) (hk : k < i) (hi : i < E.length) : lessW ((keysE E).getD k default).1 ((keysE E).getD i default).1 = true := by
  have := List.pairwise_iff_getElem.1 h k i (by omega) hi hk
  simpa [keysE, hi, show k < E.length by omega] using this

open Go.Sort Go.Maps in
set_option maxRecDepth 100000 in
set_option maxHeartbeats 4000000 in
theorem walk (a0 : Int) (a1 : Option Addr) (len1 cap1 : Nat) (w : World) (w0 : (Lit.int .u64 a0).wf = true) (w1 : IsWants w a1 len1 cap1) :
    Calls Try.prog 4 #[.int .u64 a0, .slice a1 len1 cap1] w fun e w' => e = .returned (.bool true) ∧ Below w.heap.size w w' := by
  obtain ⟨hlc, hcm, hrow⟩ := w1
  have HR := Lib.hid hrow
  clear w0 hlc hrow
  go_enter Try.func4, Try.ntmps4
  go_wp2_with fail
  refine (awake_any _).mono ?_
  rintro e w1 ⟨rfl, B1⟩
  by_cases hbig : 20 < len1
  · go_wp2_with fail
    go_ret
    exact ⟨rfl, B1⟩
  have hlen : len1 ≤ 20 := by omega
  have HB1 := Lib.hid B1
  clear B1 hbig
  go_wp2_with fail
  refine (ht_new w w1 3 9 2 HB1.out (by unfold newOk; omega)).mono ?_
  rintro e w2 ⟨g, b, rfl, ht2, q1⟩
  have HT2 := Lib.hid ht2
  clear ht2 q1 HB1
  go_wp2_with fail
  go_loopw [8, 9] (fun nv iv wr => ∃ (i : Nat) (E : En), i ≤ len1 ∧ iv = .int .i64 i ∧ nv = .int .i64 E.length ∧ HT w wr g b 3 9 2 E ∧ (∀ p ∈ E, p.2 = (0, 1)) ∧ E.length ≤ i)
    (fun _ iv _ => len1 - (intOf iv).toNat)
  case atStart => exact ⟨0, [], Nat.zero_le _, rfl, rfl, HT2.out, (fun p hp => by cases hp), Nat.le_refl _⟩
  case round =>
    clear HT2
    obtain ⟨i, E, hi, rfl, rfl, ht, hnew, hEl⟩ := hrel
    by_cases hlt : i < len1
    · obtain ⟨x, b0, off, rfl, hb0, hr⟩ : ∃ x b0 off, a1 = some ⟨b0, off, none⟩ ∧ b0 < w.heap.size ∧ w.rangeAt b0 (off + i * 66) (encS x) := by
        rcases HR.out with h | ⟨b0, off, ha, hb0, h⟩
        · omega
        · obtain ⟨cs, _, ⟨x, rfl⟩, hr⟩ := h i hlt
          exact ⟨x, b0, off, ha, hb0, hr⟩
      obtain ⟨il, hil⟩ : ∃ il, encS x = il := ⟨_, rfl⟩
      have hwv : wv x = .agg il.toArray := by rw [← hil]; rfl
      have hi35 : (Try.prog.info? 35).map (·.size) = some il.toArray.size := by rw [← hil]; exact size35 _
      rw [hil] at hr
      have hrr := range_below hr ht.below hb0
      have h1 := ht_start ht (by unfold maxLen; omega) x
      have hsl := stE_len E x
      have hsn := stE_new hnew x
      rw [hwv] at h1
      have H1 := Lib.hid h1
      have HI := Lib.hid hi35
      have HRR := Lib.hid hrr
      have HSN := Lib.hid hsn
      have HSL := Lib.hid hsl
      clear h1 hi35 hrr hsn ht hnew hwv hil hr hsl
      generalize stE E x = E' at H1 HSN HSL
      go_wp2_with (refine wpList_load_range 35 (.tmp 36) b0 (off + i * 66) il.toArray _ rfl rfl rfl Try.underlying35 rfl HI.out HRR.out ?_)
      refine H1.out.mono ?_
      rintro e w3 ⟨rfl, ht3, q1⟩
      have HT3 := Lib.hid ht3
      clear ht3 q1 H1 HRR
      cases hq : (lk E x).isSome with
      | true =>
        have hEE : E'.length = E.length := by rw [HSL.out, if_pos hq]
        have HEE := Lib.hid hEE
        clear hEE
        go_wp2_with fail
        go_roundw
        case rel => exact ⟨i + 1, E', by omega, by go_num, by rw [HEE.out], HT3.out, HSN.out, by rw [HEE.out]; omega⟩
        case measure => first | (simp [intOf]; done) | (simp [intOf]; omega)
      | false =>
        have hEE : E'.length = E.length + 1 := by rw [HSL.out, if_neg (by rw [hq]; simp)]
        have HEE := Lib.hid hEE
        clear hEE
        go_wp2_with fail
        go_roundw
        case rel => exact ⟨i + 1, E', by omega, by go_num, by rw [HEE.out]; go_num, HT3.out, HSN.out, by rw [HEE.out]; omega⟩
        case measure => first | (simp [intOf]; done) | (simp [intOf]; omega)
    · obtain rfl : i = len1 := by omega
      have h1 := ht_dice ht a0
      have H1 := Lib.hid h1
      have hsrt := ht.tb.srt
      have HSRT := Lib.hid hsrt
      have HNEW := Lib.hid hnew
      have hEn : E.length ≤ 20 := by omega
      clear ht h1 hsrt hnew HR
      go_wp2_with fail
      refine H1.out.mono ?_
      rintro e w3 ⟨d, rfl, hd3, q1, q2⟩
      clear q1 q2 H1
      obtain ⟨t, ht⟩ : ∃ t, tick 3 9 2 E a0 = t := ⟨_, rfl⟩
      have hta := tick_all (base := 3) (most := 9) (budget := 2) (s := a0) HNEW.out (by decide)
      rw [ht] at hta
      obtain ⟨t1, t2, t3⟩ := hta
      have h2 := hd_tick hd3 (by omega) t ht
      rw [t1, t2, show ([] : List WS).length = 0 from rfl, show (keysE E).length = E.length by simp [keysE]] at h2
      have H2 := Lib.hid h2
      have HT3 := Lib.hid t3
      clear h2 hd3 ht t1 t2 t3 HNEW
      go_wp2_with fail
      refine H2.out.mono ?_
      rintro e w4 ⟨A, c, A', c', m, rfl, hx4, _, hm4, hd4, _⟩
      have hP : t.P.length = E.length := by have := congrArg List.length HT3.out; simpa [keysE] using this
      have h3 := hd_open hd4 (by rw [hP]; omega)
      rw [hP, HT3.out] at h3
      have H3 := Lib.hid h3
      have HX4 := Lib.hid hx4
      clear h3 hx4 hd4 hm4 H2
      go_wp2_with fail
      refine H3.out.mono ?_
      rintro e w5 ⟨B, c5, rfl, ho5, hd5, hB5⟩
      have HX5 := Lib.hid (HX4.out.kept (grown_below hB5 none) (own_ne fun k e => by cases e))
      have HO5 := Lib.hid ho5
      have HD5 := Lib.hid hd5
      have hkl : (keysE E).length = E.length := by simp [keysE]
      have HKL := Lib.hid hkl
      have HP := Lib.hid hP
      clear ho5 hd5 hB5 H3 HX4 hkl hP
      go_wp2_with fail
      go_loopw [13, 14] (fun iv _ wr => ∃ i : Nat, i ≤ E.length ∧ iv = .int .i64 i ∧ Below w5.heap.size w5 wr)
        (fun iv _ _ => E.length - (intOf iv).toNat)
      case atStart => exact ⟨0, Nat.zero_le _, rfl, Below.refl _ _⟩
      case round =>
        obtain ⟨i, hi, rfl, hB⟩ := hrel
        by_cases hlt : i < E.length
        · obtain ⟨bx, rfl, hbx, hrx⟩ := row_at HX5.out HKL.out hlt
          obtain ⟨bo, rfl, hbo, hro⟩ := row_at HO5.out HKL.out hlt
          obtain ⟨x, hx⟩ : ∃ x, (keysE E).getD i default = x := ⟨_, rfl⟩
          rw [hx] at hrx hro
          obtain ⟨il, hil⟩ : ∃ il, encS x = il := ⟨_, rfl⟩
          have hwv : wv x = .agg il.toArray := by rw [← hil]; rfl
          have hi35 : (Try.prog.info? 35).map (·.size) = some il.length := by rw [← hil]; simpa using size35 x
          rw [hil] at hrx hro
          have hu35 := Try.underlying35
          have hin : (lk t.P x).isSome = true := by
            rw [lk_mem, HT3.out, ← hx]
            simp [HKL.out, hlt]
          have HC := fun w' (hw' : Below w5.heap.size w5 w') => Lib.hid (hd_has (HD5.out.below_ hw') x)
          rw [hwv, hin] at HC
          have SG : Hid (∀ w', Below w5.heap.size w5 w' → w'.rangeAt bx (i * 66) il ∧ w'.rangeAt bo (i * 66) il) := fun w' hw' => ⟨range_below hrx hw' hbx, range_below hro hw' hbo⟩
          have HX := Lib.hid hx
          have HWV := Lib.hid hwv
          have HIL := Lib.hid hil
          have HBX := Lib.hid hbx
          clear hx hwv hrx hro hin hil hbx hbo
          go_wp2_with fail
          refine wp_region_held_drew (S := (fun w' => Below w5.heap.size w5 w')) (by kernel_rfl) (below_dr hB) (fun hHeld => ?_)
          clear hB
          refine wpAnyH_take (i := 0) (v := .slice (some ⟨bx, 0, none⟩) E.length c) rfl (by kernel_rfl) (by kernel_rfl) (by kernel_rfl) (fun _ _ _ h => h) (Or.inl ⟨by rfl, fun w' hw' => by go_simp⟩) hHeld ?_
          try simp only [Act.put, List.getElem_toArray, List.getElem_cons_succ, List.getElem_cons_zero, List.setIfInBounds_toArray, List.set_cons_zero, List.set_cons_succ]
          refine wpAnyH_take (i := 1) (v := .int .i64 i) rfl (by kernel_rfl) (by kernel_rfl) (by kernel_rfl) (fun _ _ _ h => h) (Or.inl ⟨by rfl, fun w' hw' => by go_simp⟩) hHeld ?_
          try simp only [Act.put, List.getElem_toArray, List.getElem_cons_succ, List.getElem_cons_zero, List.setIfInBounds_toArray, List.set_cons_zero, List.set_cons_succ]
          refine wpAnyH_take (i := 2) (v := .pointer (some ⟨bx, i * 66, none⟩)) rfl (by kernel_rfl) (by kernel_rfl) (by kernel_rfl) (fun _ _ _ h => h) (Or.inl ⟨by rfl, fun w' hw' => by go_simp⟩) hHeld ?_
          try simp only [Act.put, List.getElem_toArray, List.getElem_cons_succ, List.getElem_cons_zero, List.setIfInBounds_toArray, List.set_cons_zero, List.set_cons_succ]
          refine wpAnyH_take (i := 3) (v := .agg il.toArray) rfl (by kernel_rfl) (by kernel_rfl) (by kernel_rfl) (fun _ _ _ h => h) (Or.inl ⟨by rfl, fun w' hw' => by exact exec_load rfl rfl (run_loadAt_mid w' bx (i * 66) 35 il _ (SG.out w' hw').1 hu35 rfl hi35)⟩) hHeld ?_
          try simp only [Act.put, List.getElem_toArray, List.getElem_cons_succ, List.getElem_cons_zero, List.setIfInBounds_toArray, List.set_cons_zero, List.set_cons_succ]
          refine wpAnyH_take (i := 4) (v := .slice (some ⟨bo, 0, none⟩) E.length c5) rfl (by kernel_rfl) (by kernel_rfl) (by kernel_rfl) (fun _ _ _ h => h) (Or.inl ⟨by rfl, fun w' hw' => by go_simp⟩) hHeld ?_
          try simp only [Act.put, List.getElem_toArray, List.getElem_cons_succ, List.getElem_cons_zero, List.setIfInBounds_toArray, List.set_cons_zero, List.set_cons_succ]
          refine wpAnyH_take (i := 5) (v := .int .i64 i) rfl (by kernel_rfl) (by kernel_rfl) (by kernel_rfl) (fun _ _ _ h => h) (Or.inl ⟨by rfl, fun w' hw' => by go_simp⟩) hHeld ?_
          try simp only [Act.put, List.getElem_toArray, List.getElem_cons_succ, List.getElem_cons_zero, List.setIfInBounds_toArray, List.set_cons_zero, List.set_cons_succ]
          refine wpAnyH_take (i := 6) (v := .pointer (some ⟨bo, i * 66, none⟩)) rfl (by kernel_rfl) (by kernel_rfl) (by kernel_rfl) (fun _ _ _ h => h) (Or.inl ⟨by rfl, fun w' hw' => by go_simp⟩) hHeld ?_
          try simp only [Act.put, List.getElem_toArray, List.getElem_cons_succ, List.getElem_cons_zero, List.setIfInBounds_toArray, List.set_cons_zero, List.set_cons_succ]
          refine wpAnyH_take (i := 7) (v := .agg il.toArray) rfl (by kernel_rfl) (by kernel_rfl) (by kernel_rfl) (fun _ _ _ h => h) (Or.inl ⟨by rfl, fun w' hw' => by exact exec_load rfl rfl (run_loadAt_mid w' bo (i * 66) 35 il _ (SG.out w' hw').2 hu35 rfl hi35)⟩) hHeld ?_
          try simp only [Act.put, List.getElem_toArray, List.getElem_cons_succ, List.getElem_cons_zero, List.setIfInBounds_toArray, List.set_cons_zero, List.set_cons_succ]
          refine wpAnyH_take (i := 8) (v := .bool false) rfl (by kernel_rfl) (by kernel_rfl) (by kernel_rfl) (fun _ _ _ h => h) (Or.inl ⟨by rfl, fun w' hw' => by exact exec_neq rfl rfl rfl HWV.out HWV.out false (by simp) w'⟩) hHeld ?_
          try simp only [Act.put, List.getElem_toArray, List.getElem_cons_succ, List.getElem_cons_zero, List.setIfInBounds_toArray, List.set_cons_zero, List.set_cons_succ]
          refine wpAnyH_take (i := 9) (v := .bool false) rfl (by kernel_rfl) (by kernel_rfl) (by kernel_rfl) (fun _ _ _ h => h) (Or.inl ⟨by rfl, fun w' hw' => by go_simp⟩) hHeld ?_
          try simp only [Act.put, List.getElem_toArray, List.getElem_cons_succ, List.getElem_cons_zero, List.setIfInBounds_toArray, List.set_cons_zero, List.set_cons_succ]
          refine wpAnyH_take (i := 10) (v := .pointer (some ⟨g, 0, none⟩)) rfl (by kernel_rfl) (by kernel_rfl) (by kernel_rfl) (fun _ _ _ h => h) (Or.inl ⟨by rfl, fun w' hw' => by go_simp⟩) hHeld ?_
          try simp only [Act.put, List.getElem_toArray, List.getElem_cons_succ, List.getElem_cons_zero, List.setIfInBounds_toArray, List.set_cons_zero, List.set_cons_succ]
          refine wpAnyH_take (i := 11) (v := .slice (some ⟨bx, 0, none⟩) E.length c) rfl (by kernel_rfl) (by kernel_rfl) (by kernel_rfl) (fun _ _ _ h => h) (Or.inl ⟨by rfl, fun w' hw' => by go_simp⟩) hHeld ?_
          try simp only [Act.put, List.getElem_toArray, List.getElem_cons_succ, List.getElem_cons_zero, List.setIfInBounds_toArray, List.set_cons_zero, List.set_cons_succ]
          refine wpAnyH_take (i := 12) (v := .int .i64 i) rfl (by kernel_rfl) (by kernel_rfl) (by kernel_rfl) (fun _ _ _ h => h) (Or.inl ⟨by rfl, fun w' hw' => by go_simp⟩) hHeld ?_
          try simp only [Act.put, List.getElem_toArray, List.getElem_cons_succ, List.getElem_cons_zero, List.setIfInBounds_toArray, List.set_cons_zero, List.set_cons_succ]
          refine wpAnyH_take (i := 13) (v := .pointer (some ⟨bx, i * 66, none⟩)) rfl (by kernel_rfl) (by kernel_rfl) (by kernel_rfl) (fun _ _ _ h => h) (Or.inl ⟨by rfl, fun w' hw' => by go_simp⟩) hHeld ?_
          try simp only [Act.put, List.getElem_toArray, List.getElem_cons_succ, List.getElem_cons_zero, List.setIfInBounds_toArray, List.set_cons_zero, List.set_cons_succ]
          refine wpAnyH_take (i := 14) (v := .agg il.toArray) rfl (by kernel_rfl) (by kernel_rfl) (by kernel_rfl) (fun _ _ _ h => h) (Or.inl ⟨by rfl, fun w' hw' => by exact exec_load rfl rfl (run_loadAt_mid w' bx (i * 66) 35 il _ (SG.out w' hw').1 hu35 rfl hi35)⟩) hHeld ?_
          try simp only [Act.put, List.getElem_toArray, List.getElem_cons_succ, List.getElem_cons_zero, List.setIfInBounds_toArray, List.set_cons_zero, List.set_cons_succ]
          refine wpAnyH_ready (rs := [15]) (by kernel_rfl) (by simp) ?_
          refine AllReadyH.cons rfl (fun K hK => ?_) AllReadyH.nil
          go_simp
          refine (HC _ hHeld).out.mono ?_
          rintro e w6 ⟨rfl, q1, hB6⟩
          have hB7 : Below w5.heap.size w5 w6 := hHeld.trans (hB6.mono hHeld.size)
          clear q1 hB6
          refine hK.out _ _ hB7 (fun hHeld => ?_)
          clear hK K
          try simp only [Act.put, List.getElem_toArray, List.getElem_cons_succ, List.getElem_cons_zero, List.setIfInBounds_toArray, List.set_cons_zero, List.set_cons_succ]
          refine wpAnyH_take (i := 16) (v := .bool false) rfl (by kernel_rfl) (by kernel_rfl) (by kernel_rfl) (fun _ _ _ h => h) (Or.inl ⟨by rfl, fun w' hw' => by go_simp⟩) hHeld ?_
          try simp only [Act.put, List.getElem_toArray, List.getElem_cons_succ, List.getElem_cons_zero, List.setIfInBounds_toArray, List.set_cons_zero, List.set_cons_succ]
          refine wpAnyH_take (i := 17) (v := .bool false) rfl (by kernel_rfl) (by kernel_rfl) (by kernel_rfl) (fun _ _ _ h => h) (Or.inl ⟨by rfl, fun w' hw' => by go_simp⟩) hHeld ?_
          try simp only [Act.put, List.getElem_toArray, List.getElem_cons_succ, List.getElem_cons_zero, List.setIfInBounds_toArray, List.set_cons_zero, List.set_cons_succ]
          refine wpAnyH_done (by kernel_rfl) ?_ _
          go_wp2_with fail
          have HB6 := Lib.hid hHeld
          have HI35 := Lib.hid hi35
          clear hHeld hB7 HC hi35
          go_loopw [14] (fun kv wr => ∃ k : Nat, k ≤ i ∧ kv = .int .i64 k ∧ Below w5.heap.size w5 wr)
            (fun kv _ => i - (intOf kv).toNat)
          case atStart => exact ⟨0, Nat.zero_le _, rfl, HB6.out⟩
          case round =>
            clear HB6
            obtain ⟨k, hk, rfl, hB⟩ := hrel
            by_cases hki : k < i
            · obtain ⟨y, hy⟩ : ∃ y, (keysE E).getD k default = y := ⟨_, rfl⟩
              have hless := less_at HSRT.out hki hlt
              rw [hy, HX.out] at hless
              have hne : decide (y = x) = false := by
                rw [decide_eq_false_iff_not]
                intro e
                rw [e, lessW_irr] at hless
                cases hless
              have hsz := less_size hless
              obtain ⟨bx', hbe, hbx, hry⟩ := row_at HX5.out HKL.out (show k < E.length by omega)
              obtain rfl : bx' = bx := by injection hbe with hbe; injection hbe with hbe; exact hbe.symm
              obtain ⟨_, hbe2, _, hrx⟩ := row_at HX5.out HKL.out hlt
              injection hbe2 with hbe2
              injection hbe2 with hbe2
              subst hbe2
              rw [hy] at hry
              rw [HX.out] at hrx
              obtain ⟨sx, hsx⟩ : ∃ s, x.1.1.1 = s := ⟨_, rfl⟩
              obtain ⟨sy, hsy⟩ : ∃ s, y.1.1.1 = s := ⟨_, rfl⟩
              rw [hsx, hsy] at hsz
              obtain ⟨yl, hyl⟩ : ∃ yl, encS y = yl := ⟨_, rfl⟩
              have hwy : wv y = .agg yl.toArray := by rw [← hyl]; rfl
              have hi36 : (Try.prog.info? 35).map (·.size) = some yl.length := by rw [← hyl]; simpa using size35 y
              have hi35 := HI35.out
              have hu35 := Try.underlying35
              have SG2 : Hid (∀ w', Below w5.heap.size w5 w' → w'.rangeAt bx' (i * 66) il ∧ w'.rangeAt bx' (k * 66) yl ∧ w'.cell? ⟨bx', i * 66, none⟩ = some (.int .u64 sx) ∧ w'.cell? ⟨bx', k * 66, none⟩ = some (.int .u64 sy)) := fun w' hw' => by
                have r1 := range_below hrx hw' hbx
                have r2 := range_below hry hw' hbx
                refine ⟨by rw [← HIL.out]; exact r1, by rw [← hyl]; exact r2, ?_, ?_⟩
                · rw [← hsx]; exact size_at r1
                · rw [← hsy]; exact size_at r2
              have HWY := Lib.hid hwy
              have HNE := Lib.hid hne
              have hkE : k < E.length := by omega
              have hgt : decide (sy > sx) = false := by rw [decide_eq_false_iff_not]; omega
              clear hy hless hry hrx hsx hsy hyl hwy hne hbe
              go_wp2_with fail
              refine wp_region_held_drew (S := (fun w' => Below w5.heap.size w5 w')) (by kernel_rfl) (below_dr hB) (fun hHeld => ?_)
              clear hB
              refine wpAnyH_take (i := 0) (v := .slice (some ⟨bx', 0, none⟩) E.length c) rfl (by kernel_rfl) (by kernel_rfl) (by kernel_rfl) (fun _ _ _ h => h) (Or.inl ⟨by rfl, fun w' hw' => by go_simp⟩) hHeld ?_
              try simp only [Act.put, List.getElem_toArray, List.getElem_cons_succ, List.getElem_cons_zero, List.setIfInBounds_toArray, List.set_cons_zero, List.set_cons_succ]
              refine wpAnyH_take (i := 1) (v := .int .i64 k) rfl (by kernel_rfl) (by kernel_rfl) (by kernel_rfl) (fun _ _ _ h => h) (Or.inl ⟨by rfl, fun w' hw' => by go_simp⟩) hHeld ?_
              try simp only [Act.put, List.getElem_toArray, List.getElem_cons_succ, List.getElem_cons_zero, List.setIfInBounds_toArray, List.set_cons_zero, List.set_cons_succ]
              refine wpAnyH_take (i := 2) (v := .pointer (some ⟨bx', k * 66, none⟩)) rfl (by kernel_rfl) (by kernel_rfl) (by kernel_rfl) (fun _ _ _ h => h) (Or.inl ⟨by rfl, fun w' hw' => by go_simp⟩) hHeld ?_
              try simp only [Act.put, List.getElem_toArray, List.getElem_cons_succ, List.getElem_cons_zero, List.setIfInBounds_toArray, List.set_cons_zero, List.set_cons_succ]
              refine wpAnyH_take (i := 3) (v := .agg yl.toArray) rfl (by kernel_rfl) (by kernel_rfl) (by kernel_rfl) (fun _ _ _ h => h) (Or.inl ⟨by rfl, fun w' hw' => by exact exec_load rfl rfl (run_loadAt_mid w' bx' (k * 66) 35 yl _ (SG2.out w' hw').2.1 hu35 rfl hi36)⟩) hHeld ?_
              try simp only [Act.put, List.getElem_toArray, List.getElem_cons_succ, List.getElem_cons_zero, List.setIfInBounds_toArray, List.set_cons_zero, List.set_cons_succ]
              refine wpAnyH_take (i := 4) (v := .slice (some ⟨bx', 0, none⟩) E.length c) rfl (by kernel_rfl) (by kernel_rfl) (by kernel_rfl) (fun _ _ _ h => h) (Or.inl ⟨by rfl, fun w' hw' => by go_simp⟩) hHeld ?_
              try simp only [Act.put, List.getElem_toArray, List.getElem_cons_succ, List.getElem_cons_zero, List.setIfInBounds_toArray, List.set_cons_zero, List.set_cons_succ]
              refine wpAnyH_take (i := 5) (v := .int .i64 i) rfl (by kernel_rfl) (by kernel_rfl) (by kernel_rfl) (fun _ _ _ h => h) (Or.inl ⟨by rfl, fun w' hw' => by go_simp⟩) hHeld ?_
              try simp only [Act.put, List.getElem_toArray, List.getElem_cons_succ, List.getElem_cons_zero, List.setIfInBounds_toArray, List.set_cons_zero, List.set_cons_succ]
              refine wpAnyH_take (i := 6) (v := .pointer (some ⟨bx', i * 66, none⟩)) rfl (by kernel_rfl) (by kernel_rfl) (by kernel_rfl) (fun _ _ _ h => h) (Or.inl ⟨by rfl, fun w' hw' => by go_simp⟩) hHeld ?_
              try simp only [Act.put, List.getElem_toArray, List.getElem_cons_succ, List.getElem_cons_zero, List.setIfInBounds_toArray, List.set_cons_zero, List.set_cons_succ]
              refine wpAnyH_take (i := 7) (v := .agg il.toArray) rfl (by kernel_rfl) (by kernel_rfl) (by kernel_rfl) (fun _ _ _ h => h) (Or.inl ⟨by rfl, fun w' hw' => by exact exec_load rfl rfl (run_loadAt_mid w' bx' (i * 66) 35 il _ (SG2.out w' hw').1 hu35 rfl hi35)⟩) hHeld ?_
              try simp only [Act.put, List.getElem_toArray, List.getElem_cons_succ, List.getElem_cons_zero, List.setIfInBounds_toArray, List.set_cons_zero, List.set_cons_succ]
              refine wpAnyH_take (i := 8) (v := .bool false) rfl (by kernel_rfl) (by kernel_rfl) (by kernel_rfl) (fun _ _ _ h => h) (Or.inl ⟨by rfl, fun w' hw' => by exact exec_eql rfl rfl rfl HWY.out HWV.out false HNE.out w'⟩) hHeld ?_
              try simp only [Act.put, List.getElem_toArray, List.getElem_cons_succ, List.getElem_cons_zero, List.setIfInBounds_toArray, List.set_cons_zero, List.set_cons_succ]
              refine wpAnyH_take (i := 9) (v := .bool false) rfl (by kernel_rfl) (by kernel_rfl) (by kernel_rfl) (fun _ _ _ h => h) (Or.inl ⟨by rfl, fun w' hw' => by go_simp⟩) hHeld ?_
              try simp only [Act.put, List.getElem_toArray, List.getElem_cons_succ, List.getElem_cons_zero, List.setIfInBounds_toArray, List.set_cons_zero, List.set_cons_succ]
              refine wpAnyH_take (i := 10) (v := .slice (some ⟨bx', 0, none⟩) E.length c) rfl (by kernel_rfl) (by kernel_rfl) (by kernel_rfl) (fun _ _ _ h => h) (Or.inl ⟨by rfl, fun w' hw' => by go_simp⟩) hHeld ?_
              try simp only [Act.put, List.getElem_toArray, List.getElem_cons_succ, List.getElem_cons_zero, List.setIfInBounds_toArray, List.set_cons_zero, List.set_cons_succ]
              refine wpAnyH_take (i := 11) (v := .int .i64 k) rfl (by kernel_rfl) (by kernel_rfl) (by kernel_rfl) (fun _ _ _ h => h) (Or.inl ⟨by rfl, fun w' hw' => by go_simp⟩) hHeld ?_
              try simp only [Act.put, List.getElem_toArray, List.getElem_cons_succ, List.getElem_cons_zero, List.setIfInBounds_toArray, List.set_cons_zero, List.set_cons_succ]
              refine wpAnyH_take (i := 12) (v := .pointer (some ⟨bx', k * 66, none⟩)) rfl (by kernel_rfl) (by kernel_rfl) (by kernel_rfl) (fun _ _ _ h => h) (Or.inl ⟨by rfl, fun w' hw' => by go_simp⟩) hHeld ?_
              try simp only [Act.put, List.getElem_toArray, List.getElem_cons_succ, List.getElem_cons_zero, List.setIfInBounds_toArray, List.set_cons_zero, List.set_cons_succ]
              refine wpAnyH_take (i := 13) (v := .pointer (some ⟨bx', k * 66, none⟩)) rfl (by kernel_rfl) (by kernel_rfl) (by kernel_rfl) (fun _ _ _ h => h) (Or.inl ⟨by rfl, fun w' hw' => by go_simp⟩) hHeld ?_
              try simp only [Act.put, List.getElem_toArray, List.getElem_cons_succ, List.getElem_cons_zero, List.setIfInBounds_toArray, List.set_cons_zero, List.set_cons_succ]
              refine wpAnyH_take (i := 14) (v := .pointer (some ⟨bx', k * 66, none⟩)) rfl (by kernel_rfl) (by kernel_rfl) (by kernel_rfl) (fun _ _ _ h => h) (Or.inl ⟨by rfl, fun w' hw' => by go_simp⟩) hHeld ?_
              try simp only [Act.put, List.getElem_toArray, List.getElem_cons_succ, List.getElem_cons_zero, List.setIfInBounds_toArray, List.set_cons_zero, List.set_cons_succ]
              refine wpAnyH_take (i := 15) (v := .int .u64 sy) rfl (by kernel_rfl) (by kernel_rfl) (by kernel_rfl) (fun _ _ _ h => h) (Or.inl ⟨by rfl, fun w' hw' => by have hc := (SG2.out w' hw').2.2.2; go_simp⟩) hHeld ?_
              try simp only [Act.put, List.getElem_toArray, List.getElem_cons_succ, List.getElem_cons_zero, List.setIfInBounds_toArray, List.set_cons_zero, List.set_cons_succ]
              refine wpAnyH_take (i := 16) (v := .slice (some ⟨bx', 0, none⟩) E.length c) rfl (by kernel_rfl) (by kernel_rfl) (by kernel_rfl) (fun _ _ _ h => h) (Or.inl ⟨by rfl, fun w' hw' => by go_simp⟩) hHeld ?_
              try simp only [Act.put, List.getElem_toArray, List.getElem_cons_succ, List.getElem_cons_zero, List.setIfInBounds_toArray, List.set_cons_zero, List.set_cons_succ]
              refine wpAnyH_take (i := 17) (v := .int .i64 i) rfl (by kernel_rfl) (by kernel_rfl) (by kernel_rfl) (fun _ _ _ h => h) (Or.inl ⟨by rfl, fun w' hw' => by go_simp⟩) hHeld ?_
              try simp only [Act.put, List.getElem_toArray, List.getElem_cons_succ, List.getElem_cons_zero, List.setIfInBounds_toArray, List.set_cons_zero, List.set_cons_succ]
              refine wpAnyH_take (i := 18) (v := .pointer (some ⟨bx', i * 66, none⟩)) rfl (by kernel_rfl) (by kernel_rfl) (by kernel_rfl) (fun _ _ _ h => h) (Or.inl ⟨by rfl, fun w' hw' => by go_simp⟩) hHeld ?_
              try simp only [Act.put, List.getElem_toArray, List.getElem_cons_succ, List.getElem_cons_zero, List.setIfInBounds_toArray, List.set_cons_zero, List.set_cons_succ]
              refine wpAnyH_take (i := 19) (v := .pointer (some ⟨bx', i * 66, none⟩)) rfl (by kernel_rfl) (by kernel_rfl) (by kernel_rfl) (fun _ _ _ h => h) (Or.inl ⟨by rfl, fun w' hw' => by go_simp⟩) hHeld ?_
              try simp only [Act.put, List.getElem_toArray, List.getElem_cons_succ, List.getElem_cons_zero, List.setIfInBounds_toArray, List.set_cons_zero, List.set_cons_succ]
              refine wpAnyH_take (i := 20) (v := .pointer (some ⟨bx', i * 66, none⟩)) rfl (by kernel_rfl) (by kernel_rfl) (by kernel_rfl) (fun _ _ _ h => h) (Or.inl ⟨by rfl, fun w' hw' => by go_simp⟩) hHeld ?_
              try simp only [Act.put, List.getElem_toArray, List.getElem_cons_succ, List.getElem_cons_zero, List.setIfInBounds_toArray, List.set_cons_zero, List.set_cons_succ]
              refine wpAnyH_take (i := 21) (v := .int .u64 sx) rfl (by kernel_rfl) (by kernel_rfl) (by kernel_rfl) (fun _ _ _ h => h) (Or.inl ⟨by rfl, fun w' hw' => by have hc := (SG2.out w' hw').2.2.1; go_simp⟩) hHeld ?_
              try simp only [Act.put, List.getElem_toArray, List.getElem_cons_succ, List.getElem_cons_zero, List.setIfInBounds_toArray, List.set_cons_zero, List.set_cons_succ]
              refine wpAnyH_take (i := 22) (v := .bool false) rfl (by kernel_rfl) (by kernel_rfl) (by kernel_rfl) (fun _ _ _ h => h) (Or.inl ⟨by rfl, fun w' hw' => by go_simp⟩) hHeld ?_
              try simp only [Act.put, List.getElem_toArray, List.getElem_cons_succ, List.getElem_cons_zero, List.setIfInBounds_toArray, List.set_cons_zero, List.set_cons_succ]
              refine wpAnyH_take (i := 23) (v := .bool false) rfl (by kernel_rfl) (by kernel_rfl) (by kernel_rfl) (fun _ _ _ h => h) (Or.inl ⟨by rfl, fun w' hw' => by go_simp⟩) hHeld ?_
              try simp only [Act.put, List.getElem_toArray, List.getElem_cons_succ, List.getElem_cons_zero, List.setIfInBounds_toArray, List.set_cons_zero, List.set_cons_succ]
              refine wpAnyH_done (by kernel_rfl) ?_ _
              go_wp2_with fail
              go_roundw
              case rel => exact ⟨k + 1, by omega, by go_num, hHeld⟩
              case measure => first | (simp [intOf]; done) | (simp [intOf]; omega)
            · obtain rfl : k = i := by omega
              go_wp2_with fail
              go_roundw
              case rel => exact ⟨k + 1, by omega, by go_num, hB⟩
              case measure => first | (simp [intOf]; done) | (simp [intOf]; omega)
        · obtain rfl : i = E.length := by omega
          have HB := Lib.hid (HD5.out.ht.below.trans (hB.mono HD5.out.ht.below.size))
          clear hB
          go_wp2_with fail
          go_ret
          exact ⟨rfl, HB.out⟩

set_option maxRecDepth 100000 in
theorem lifted (os : Os) (started : os.Started) (H : Type) (enc : TypeId × Value → H) :
    ReturnsInHanded {} Try.checked os 4 .any (Rows.fetchOrderSpec.pre6 enc Try.prog Try.f4 Rows.fetchOrderRow.domain false) (Rows.fetchOrderSpec.post enc Try.prog Try.f4 false true false false) := by
  refine returnsInHanded_of_change (C := Try.checked) own started (by kernel_rfl) Try.func4
    (ChangeSpec.witness6 (enc := enc) (C := Try.checked) false ⟨#[], #[.int .u64 0, .slice none 0 0], []⟩ 8 (by kernel_rfl) (by kernel_rfl) (by kernel_rfl) (by kernel_rfl)) ?_
  intro W base args ds gs before hval0 hW hcnd _
  have hval : ∀ (j : Nat) t v, Try.f4.params[j]? = some t → args[j]? = some v → Value.okWide Try.prog W .any base t v := hval0
  have hW' := hW
  obtain ⟨p, q, hA0, hV, rfl, hfz, hnd⟩ := hW
  have hA : DataW.TrodAll enc Try.prog W 0 (fun _ => true) true Try.f4.params.toList args.toList ds p := hA0
  rw [Try.params4] at hA hval
  obtain ⟨v0, vs0, d0, ds0, p0, q0, hargs, rfl, rfl, h0, r0⟩ := trodAll_cons hA
  obtain ⟨v1, vs1, d1, ds1, p1, q1, rfl, rfl, rfl, h1, r1⟩ := trodAll_cons r0
  obtain ⟨rfl, rfl, rfl⟩ := trodAll_nil r1
  obtain rfl : args = #[v0, v1] := by cases args; simp_all
  obtain ⟨rfl, rfl⟩ := trodVars_none hV
  obtain ⟨a0, rfl, rfl, rfl, w0⟩ := open_int Try.underlying22 (hval 0 22 v0 rfl rfl) h0
  obtain ⟨a1, len1, cap1, rfl⟩ := okWide_slice Try.underlying37 (hval 1 37 v1 rfl rfl)
  have k1 := h1
  have lt1 : ∀ x ∈ p1, x.block < W.heap.size := by obtain ⟨m, hm⟩ := k1; exact DataW.trod_lt m _ _ _ hm
  have w1 : IsWants W a1 len1 cap1 := by
    obtain ⟨fuel, hf⟩ := h1
    exact open_wants hf
  clear hA0 hval0
  refine (walk a0 a1 len1 cap1 W w0 w1).mono fun e W' ⟨he, bel⟩ => ?_
  subst he
  exact ⟨_, rfl, _, _, _, [], _, [], hW', trodAll_mk1 (shut_bool Try.underlying4 _), (trodAll_cons_mk (shut_int Try.underlying22 w0) (trodAll_cons_mk (Below.trod laidOut (by kernel_rfl) (of_decide_eq_true (by kernel_rfl)) k1 bel lt1) trodAll_mk0)), rfl, bel.frame _, fun h => by cases h⟩

theorem over : Rows.fetchOrderRow.holds Try.pinned (OpenSpec.ofChange Rows.fetchOrderSpec) :=
  OpenClaim.holds_of_wide 4 Try.f4 rfl rfl rfl rfl rfl rfl rfl ⟨rfl, rfl, rfl, rfl, rfl⟩ rfl rfl rfl rfl rfl (by kernel_rfl) Try.func4 (by kernel_rfl)
    (of_decide_eq_true (by kernel_rfl)) (by unfold Func.isWrapper; first | (rw [if_pos (by decide +kernel)]; kernel_rfl) | (rw [if_neg (by decide +kernel)]; exact ⟨rfl, rfl⟩))
    (fun os started H enc _ => lifted os started H enc)

theorem proved : Rows.FetchOrderSaid := over
#print axioms proved
end Go.Proofs.Ythjgmnafbikihaa.fetchOrder
