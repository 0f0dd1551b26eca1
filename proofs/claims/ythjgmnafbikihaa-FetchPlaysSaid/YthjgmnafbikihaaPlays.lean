/-
  FetchPlays: whatever is asked for, done, and however time goes by, what is told, and what is asked for, are the document's, step by step; for every base, most, budget, seed and script, without conditions; what the caller can reach lies as it did.
-/
import Derived.Test.YthjgmnafbikihaaRows
import Derived.WalkKit
import Derived.ProofKit
import Derived.OpenShut
import Derived.ShutString
import Derived.ChangeOld
import Derived.Below
import Derived.Test.YthjgmnafbikihaaRn
namespace Go.Proofs.Ythjgmnafbikihaa.fetchPlays
open Go.ChangeShapes Go.WideShapes Go.ChangeAt Go.RowKit
open Go.ChangeMaps (open_string shut_string)
set_option linter.unusedVariables false
set_option linter.unusedSimpArgs false

theorem own : ownKnob Try.prog.godebug = none := by kernel_rfl
theorem laidOut : laidOutB Try.prog = true := by kernel_rfl

open Go.Sort Go.Maps in
set_option maxRecDepth 100000 in
set_option maxHeartbeats 8000000 in
theorem walk (a0 a1 a2 a3 : Int) (a4 : Option Addr) (len4 cap4 : Nat) (w : World) (w0 : (Lit.int .i64 a0).wf = true) (w1 : (Lit.int .i64 a1).wf = true) (w2 : (Lit.int .i64 a2).wf = true) (w3 : (Lit.int .u64 a3).wf = true) (w4 : IsActs w a4 len4 cap4) :
    Calls Try.prog 6 #[.int .i64 a0, .int .i64 a1, .int .i64 a2, .int .u64 a3, .slice a4 len4 cap4] w fun e w' => e = .returned (.bool true) ∧ Below w.heap.size w w' := by
  obtain ⟨hlc, hcm, hrow⟩ := w4
  have HR := Lib.hid hrow
  have HCM := Lib.hid hcm
  clear w0 w1 w2 w3 hlc hrow hcm
  by_cases hN : newOk a0 a1 a2
  · go_enter Try.func6, Try.ntmps6
    go_wp2_with fail
    refine (awake_any _).mono ?_
    rintro e w1 ⟨rfl, B1⟩
    have HB1 := Lib.hid B1
    clear B1
    go_wp2_with fail
    refine (ht_new w w1 a0 a1 a2 HB1.out hN).mono ?_
    rintro e w2 ⟨g, b, rfl, ht2, q1⟩
    have HT2 := Lib.hid ht2
    have R2 := Lib.hid (rnew_ok a0 a1 a2 w2 hN)
    have HNN := Lib.hid hN
    clear ht2 q1 HB1 hN
    go_wp2_with fail
    refine R2.out.mono ?_
    rintro e w3 ⟨rfl, hB3⟩
    have HT3 := Lib.hid (HT2.out.below_ hB3)
    clear hB3 HT2 R2
    unfold tv
    go_wp2_with fail
    have hB4 : Below w3.heap.size w3 (w3.alloc (.cells (tcells a0 a1 a2 (.slice none 0 0)) 48)) := (Below.refl _ w3).alloc (Nat.le_refl _) _
    have tq4 : TQ (w3.alloc (.cells (tcells a0 a1 a2 (.slice none 0 0)) 48)) w3.heap.size a0 a1 a2 [] := ⟨none, 0, 0, Blk.new w3 48 _, World.ownsRow_nil _ _ _ _⟩
    have hd4 := ht_dice (HT3.out.below_ hB4) a3
    have hgt0 : w.heap.size ≤ w3.heap.size := HT3.out.below.size
    have TQ4 := Lib.hid tq4
    have HD4 := Lib.hid hd4
    clear hB4 tq4 hd4 HT3
    refine HD4.out.mono ?_
    rintro e w5 ⟨d, rfl, hd5, hB5, q5⟩
    clear q5
    have tq5 := TQ4.out.below hB5
    obtain ⟨gt, hgt⟩ : ∃ gt, gt = w3.heap.size := ⟨_, rfl⟩
    rw [← hgt] at tq5 hgt0 ⊢
    have TQ5 := Lib.hid tq5
    have HD5 := Lib.hid hd5
    clear hd5 hB5 tq5 hgt TQ4 HD4
    go_wp2_with fail
    go_loopw [17, 18] (fun sv iv wr => ∃ (i : Nat) (E : En) (s : Int), i ≤ len4 ∧ i ≤ 80 ∧ iv = .int .i64 i ∧ sv = .int .u64 s ∧ HD w wr g b d a0 a1 a2 E s ∧ TQ wr gt a0 a1 a2 E ∧ E.length ≤ i)
      (fun _ iv _ => 80 - (intOf iv).toNat)
    case atStart => exact ⟨0, [], a3, Nat.zero_le _, by omega, rfl, rfl, HD5.out, TQ5.out, Nat.le_refl _⟩
    case round =>
      clear HD5 TQ5
      obtain ⟨i, E, s, hi, hi80, rfl, rfl, hd, htq, hEl⟩ := hrel
      by_cases hlt : i < len4 ∧ i < 80
      · obtain ⟨hl1, hl2⟩ := hlt
        obtain ⟨kd, x, b0, off, rfl, hb0, hr⟩ : ∃ kd x b0 off, a4 = some ⟨b0, off, none⟩ ∧ b0 < w.heap.size ∧ w.rangeAt b0 (off + i * 67) (.int .i64 kd :: encS x) := by
          rcases HR.out with h | ⟨b0, off, ha, hb0, h⟩
          · omega
          · obtain ⟨cs, _, ⟨kd, x, _, rfl⟩, hr⟩ := h i hl1
            exact ⟨kd, x, b0, off, ha, hb0, hr⟩
        obtain ⟨il, hil⟩ : ∃ il, encS x = il := ⟨_, rfl⟩
        have hwv : wv x = .agg il.toArray := by rw [← hil]; rfl
        have hi35 : (Try.prog.info? 35).map (·.size) = some il.toArray.size := by rw [← hil]; exact size35 _
        have hs66 : il.toArray.size = 66 := by rw [← hil]; have := wcells_length x.2; simpa [encS] using this
        have hone := ones_enc x
        rw [hil] at hone hr
        obtain ⟨hc0, hr1⟩ : w.cell? ⟨b0, off + i * 67, none⟩ = some (.int .i64 kd) ∧ w.rangeAt b0 (off + i * 67 + 1) il := by rw [← hil] at hr ⊢; exact act_parts hr
        have hkd : wr.cell? ⟨b0, off + i * 67, none⟩ = some (.int .i64 kd) := (hd.ht.below.cell (p := ⟨b0, off + i * 67, none⟩) hb0).trans hc0
        have hrr := range_below hr1 hd.ht.below hb0
        obtain ⟨z35, hzs, hzv⟩ := zero_agg zinfo35 (by decide)
        have HRR := Lib.hid hrr
        have HWV := Lib.hid hwv
        have HI := Lib.hid hi35
        have HS66 := Lib.hid hs66
        have HONE := Lib.hid hone
        have HKD := Lib.hid hkd
        have HIL := Lib.hid hil
        have HDR := Lib.hid hd
        have HTQ := Lib.hid htq
        clear hil hwv hi35 hs66 hone hr hc0 hr1 hkd hrr hd htq
        go_wp2_with (first
          | (refine wpList_load_range 35 (.tmp 85) b0 (off + i * 67 + 1) il.toArray _ rfl rfl rfl Try.underlying35 rfl HI.out HRR.out ?_)
          | (refine wpList_store_blk 35 (.tmp 19) (.tmp 86) wr.heap.size _ il.toArray rfl rfl rfl rfl HI.out (Blk.new _ _ _) (by rw [HS66.out, hzs]) HONE.out ?_))
        intro v0 kb0 kg0 _
        have hBv : Below wr.heap.size wr v0 := (((Below.refl _ wr).alloc (Nat.le_refl _) _).grown kg0 (by simp) (fun j e => by injection e with e; omega))
        have hd0 := HDR.out.below_ hBv
        have htq0 := HTQ.out.below hBv
        have hkd0 : v0.cell? ⟨b0, off + i * 67, none⟩ = some (.int .i64 kd) := (hBv.cell (p := ⟨b0, off + i * 67, none⟩) (Nat.lt_of_lt_of_le hb0 HDR.out.ht.below.size)).trans HKD.out
        have hbe : b ≠ wr.heap.size := by have := HDR.out.ht.tb.tab.lt; omega
        have hde : wr.heap.size ≠ d := by have := HDR.out.die.lt; omega
        have hge : gt ≠ wr.heap.size := by have := HTQ.out.lt; omega
        have hwe : w.heap.size ≤ wr.heap.size := HDR.out.ht.below.size
        obtain ⟨eb, heb⟩ : ∃ eb, eb = wr.heap.size := ⟨_, rfl⟩
        rw [← heb] at kb0 hbe hde hge hwe ⊢
        have HE0 := Lib.hid kb0
        have HD0 := Lib.hid hd0
        have TQ0 := Lib.hid htq0
        have HBV := Lib.hid hBv
        clear kb0 kg0 heb hBv hd0 htq0 HDR HTQ HKD HRR HONE hzv hzs z35 HS66
        obtain ⟨ol, hol⟩ : ∃ l, kcells (oldK x).1 = l := ⟨_, rfl⟩
        obtain ⟨nl, hnl⟩ : ∃ l, kcells (nowK x).1 = l := ⟨_, rfl⟩
        have kx : kv (oldK x) = .agg ol.toArray := by rw [← hol]; rfl
        have ky : kv (nowK x) = .agg nl.toArray := by rw [← hnl]; rfl
        have s1 := size26_ (oldK x)
        have s2 := size26_ (nowK x)
        rw [hol] at s1
        rw [hnl] at s2
        have HSUB := Lib.hid (show ∀ w' : World, Blk w' eb 35 il.toArray → w'.rangeAt eb 0 il ∧ w'.rangeAt eb 0 ol ∧ w'.rangeAt eb 33 nl from fun w' h => by
          have h1 := h.range
          simp only [List.toList_toArray] at h1
          have h2 := w_parts (x := x) (o := 0) (b := eb) (w := w') (by rw [HIL.out]; exact h1)
          rw [hol, hnl, Nat.zero_add] at h2
          exact ⟨h1, h2.1, h2.2⟩)
        have KX := Lib.hid kx
        have KY := Lib.hid ky
        have S1 := Lib.hid s1
        have S2 := Lib.hid s2
        clear kx ky s1 s2 hol hnl
        have hd0 := HD0.out
        have hEm : E.length ≤ 80 := by omega
        have hrE := (HSUB.out v0 HE0.out).1
        have HRE := Lib.hid hrE
        clear hrE
        rcases Bool.eq_false_or_eq_true (bits BinOp.and IntKind.i64 kd 3 == 0) with hk0 | hk0
        · have h1 := hd_start HD0.out (by unfold maxLen; omega) x
          rw [HWV.out] at h1
          have H1 := Lib.hid h1
          clear h1
          obtain ⟨q, hq⟩ : ∃ q, (lk E x).isSome = q := ⟨_, rfl⟩
          rw [hq] at H1
          obtain ⟨F, hFq⟩ : ∃ F, stE E x = F := ⟨_, rfl⟩
          have hFl : F.length ≤ i + 1 := by rw [← hFq]; have := stE_len E x; split at this <;> omega
          rw [hFq] at H1
          go_wp2_with (refine wpList_load_range 35 (.tmp 19) eb 0 il.toArray _ rfl rfl rfl Try.underlying35 rfl HI.out HRE.out ?_)
          refine H1.out.mono ?_
          rintro e w6 ⟨rfl, hd6, hg6⟩
          have tq6 := TQ0.out.tab HD0.out.ht.tb.tab hg6
          have he6 := HE0.out.grown hg6 (fun e => hbe (by injection e with e; exact e.symm))
          obtain ⟨A, c, m, hT6, hO6⟩ := tq6.ex
          have R := rstart_any a0 a1 a2 A E.length c m E x w6 hO6 rfl (by omega)
          rw [KX.out, KY.out, hq, hFq] at R
          have R6 := Lib.hid R
          have HT6 := Lib.hid hT6
          have HE6 := Lib.hid he6
          have HD6 := Lib.hid hd6
          have hrs := HSUB.out w6 he6
          have RO := Lib.hid hrs.2.1
          have RN := Lib.hid hrs.2.2
          have RT := Lib.hid hT6.range
          clear R hT6 hO6 tq6 he6 hd6 hg6 hrs H1 HE0 HD0 TQ0 HBV hd0 hkd0 HRE hFq hq
          go_wp2_with (first
            | (refine wpList_load_range 48 (.tmp 14) gt 0 (tcells a0 a1 a2 (.slice A E.length c)) _ rfl rfl rfl Try.underlying48 rfl (size48 _ _ _ _) RT.out ?_)
            | (refine wpList_load_range 26 (.tmp 126) eb 0 ol.toArray _ rfl rfl rfl Try.underlying26 rfl (by simpa using S1.out) (by simpa using RO.out) ?_)
            | (refine wpList_load_range 26 (.tmp 128) eb 33 nl.toArray _ rfl rfl rfl Try.underlying26 rfl (by simpa using S2.out) (by simpa using RN.out) ?_))
          refine R6.out.mono ?_
          rintro e w7 ⟨A', c', m', rfl, hO7, hB7⟩
          have HT7 := HT6.out.below hB7 HT6.out.lt
          have HW8 := ((Below.refl w7.heap.size w7).alloc (Nat.le_refl _) (.cells (tcells a0 a1 a2 (.slice A' F.length c')) 48))
          have hT8 := HT7.below HW8 HT7.lt
          have hE8 := (HE6.out.below hB7 HE6.out.lt).below HW8 (HE6.out.below hB7 HE6.out.lt).lt
          have hD8 := (HD6.out.below_ hB7).below_ HW8
          have hO8 := hO7.kept (grown_below HW8 none) (own_ne fun k e => by cases e)
          have HT8 := Lib.hid hT8
          have HE8 := Lib.hid hE8
          have HD8 := Lib.hid hD8
          have HO8 := Lib.hid hO8
          clear HT7 HW8 hT8 hE8 hD8 hO8 hO7 hB7 HT6 HE6 HD6 R6 RO RN RT
          unfold tv
          go_wp2_with (refine wpList_store_blk 48 (.tmp 14) (.tmp 133) gt (tcells a0 a1 a2 (.slice A E.length c)) (tcells a0 a1 a2 (.slice A' F.length c')) rfl rfl rfl rfl (size48 _ _ _ _) HT8.out rfl (tcells_ones _ _ _ _ _ _) ?_)
          intro v9 kb9 kg9 _
          have HD9 := Lib.hid (hd_grown HD8.out HT8.out (by decide) (by decide) kg9 hgt0)
          have TQ9 := Lib.hid (TQ.set HT8.out kb9 kg9 HO8.out)
          have HE9 := Lib.hid (HE8.out.grown kg9 (fun e => hge (by injection e with e; exact e.symm)))
          clear kb9 kg9 HD8 HT8 HE8 HO8
          go_wp2_with fail
          obtain ⟨A9, c9, m9, hT9, hO9⟩ := TQ9.out.ex
          obtain ⟨lv9, hlv9⟩ : ∃ v, tcells a0 a1 a2 (.slice A9 F.length c9) = v := ⟨_, rfl⟩
          have s48 := size48 a0 a1 a2 (.slice A9 F.length c9)
          rw [hlv9] at s48
          have HF := Lib.hid hlv9
          have hu35 := Try.underlying35
          have hu26 := Try.underlying26
          have hu48 := Try.underlying48
          have hiL : (Try.prog.info? 35).map (·.size) = some il.length := by simpa using HI.out
          have s48' : (Try.prog.info? 48).map (·.size) = some lv9.toList.length := by simpa using s48
          have SG : Hid (∀ w', Below v9.heap.size v9 w' → w'.cell? ⟨gt, 3, none⟩ = some (.slice A9 F.length c9) ∧ w'.rangeAt gt 0 lv9.toList ∧ w'.rangeAt eb 0 il ∧ w'.rangeAt eb 0 ol ∧ w'.rangeAt eb 33 nl) := fun w' hw' => by
            have hb := hT9.below hw' hT9.lt
            have he := HSUB.out w' (HE9.out.below hw' HE9.out.lt)
            refine ⟨hb.cell 3, ?_, he.1, he.2.1, he.2.2⟩
            rw [hlv9] at hb
            exact hb.range
          have L48 := Lib.hid (show ∀ w', Below v9.heap.size v9 w' → (Instr.loadAt 48 (.pointer (some ⟨gt, 0, none⟩))).run Try.prog w' = .ok (.agg lv9) w' from fun w' hw' => by have h := run_loadAt_mid w' gt 0 48 lv9.toList _ (SG.out w' hw').2.1 hu48 rfl s48'; simpa using h)
          have HO := Lib.hid (show ∀ w', Below v9.heap.size v9 w' → Calls Try.prog 14 #[.pointer (some ⟨g, 0, none⟩)] w' fun e w'' => ∃ A c, e = .returned (.slice A F.length c) ∧ w''.ownsRow w'.heap.size 35 66 (.slice A F.length c) F.length (wrow (keysE F)) ∧ Below w'.heap.size w' w'' from fun w' hw' => (hd_open (HD9.out.below_ hw') (by omega)).mono (by rintro e w'' ⟨A, c, rfl, h1, _, h2⟩; exact ⟨A, c, rfl, h1, h2⟩))
          have HH := Lib.hid (show ∀ w', Below v9.heap.size v9 w' → Calls Try.prog 13 #[.pointer (some ⟨g, 0, none⟩), .agg il.toArray] w' fun e w'' => e = .returned (.bool (lk F x).isSome) ∧ Below w'.heap.size w' w'' from fun w' hw' => by
            have h := hd_has (HD9.out.below_ hw') x
            rw [HWV.out] at h
            exact h.mono (by rintro e w'' ⟨rfl, _, h2⟩; exact ⟨rfl, h2⟩))
          have HRO := Lib.hid (show ∀ w', Below v9.heap.size v9 w' → w'.ownsRow m9 78 68 (.slice A9 F.length c9) F.length (qrow F) from fun w' hw' => hO9.kept (grown_below hw' none) (own_ne fun k e => by cases e))
          have RH := Lib.hid (show ∀ w', Below v9.heap.size v9 w' → Calls Try.prog 21 #[.agg lv9, .agg ol.toArray, .agg nl.toArray] w' fun e w'' => e = .returned (.bool (lk F x).isSome) ∧ Below w'.heap.size w' w'' from fun w' hw' => by
            have h := rhas_any a0 a1 a2 A9 F.length c9 m9 F x w' (HRO.out w' hw') rfl (by omega)
            rw [KX.out, KY.out] at h
            rw [← HF.out]
            exact h.mono (by rintro e w'' ⟨rfl, h2⟩; exact ⟨rfl, h2.below⟩))
          obtain ⟨q9, hq9⟩ : ∃ q, (lk F x).isSome = q := ⟨_, rfl⟩
          rw [hq9] at HH RH
          have hsa := S1.out
          have hsb := S2.out
          clear hT9 hO9 hlv9 s48 hq9
          refine wp_region_held_drew (S := (fun w' => Below v9.heap.size v9 w')) (by kernel_rfl) (below_dr (Below.refl _ _)) (fun hHeld => ?_)
          refine wpAnyH_take (i := 0) (v := .bool true) rfl (by kernel_rfl) (by kernel_rfl) (by kernel_rfl) (fun _ _ _ h => h) (Or.inl ⟨by rfl, fun w' hw' => by go_simp⟩) hHeld ?_
          try simp only [Act.put, List.getElem_toArray, List.getElem_cons_succ, List.getElem_cons_zero, List.setIfInBounds_toArray, List.set_cons_zero, List.set_cons_succ]
          refine wpAnyH_take (i := 1) (v := .bool false) rfl (by kernel_rfl) (by kernel_rfl) (by kernel_rfl) (fun _ _ _ h => h) (Or.inl ⟨by rfl, fun w' hw' => by go_simp⟩) hHeld ?_
          try simp only [Act.put, List.getElem_toArray, List.getElem_cons_succ, List.getElem_cons_zero, List.setIfInBounds_toArray, List.set_cons_zero, List.set_cons_succ]
          refine wpAnyH_take (i := 2) (v := .bool false) rfl (by kernel_rfl) (by kernel_rfl) (by kernel_rfl) (fun _ _ _ h => h) (Or.inl ⟨by rfl, fun w' hw' => by go_simp⟩) hHeld ?_
          try simp only [Act.put, List.getElem_toArray, List.getElem_cons_succ, List.getElem_cons_zero, List.setIfInBounds_toArray, List.set_cons_zero, List.set_cons_succ]
          refine wpAnyH_take (i := 3) (v := .pointer (some ⟨g, 0, none⟩)) rfl (by kernel_rfl) (by kernel_rfl) (by kernel_rfl) (fun _ _ _ h => h) (Or.inl ⟨by rfl, fun w' hw' => by go_simp⟩) hHeld ?_
          try simp only [Act.put, List.getElem_toArray, List.getElem_cons_succ, List.getElem_cons_zero, List.setIfInBounds_toArray, List.set_cons_zero, List.set_cons_succ]
          refine wpAnyH_take (i := 5) (v := .pointer (some ⟨gt, 3, none⟩)) rfl (by kernel_rfl) (by kernel_rfl) (by kernel_rfl) (fun _ _ _ h => h) (Or.inl ⟨by rfl, fun w' hw' => by go_simp⟩) hHeld ?_
          try simp only [Act.put, List.getElem_toArray, List.getElem_cons_succ, List.getElem_cons_zero, List.setIfInBounds_toArray, List.set_cons_zero, List.set_cons_succ]
          refine wpAnyH_take (i := 6) (v := .slice A9 F.length c9) rfl (by kernel_rfl) (by kernel_rfl) (by kernel_rfl) (fun _ _ _ h => h) (Or.inl ⟨by rfl, fun w' hw' => by have hc := (SG.out w' hw').1; go_simp⟩) hHeld ?_
          try simp only [Act.put, List.getElem_toArray, List.getElem_cons_succ, List.getElem_cons_zero, List.setIfInBounds_toArray, List.set_cons_zero, List.set_cons_succ]
          refine wpAnyH_ready (rs := [4]) (by kernel_rfl) (by simp) ?_
          refine AllReadyH.cons rfl (fun K hK => ?_) AllReadyH.nil
          go_simp
          refine (HO.out _ hHeld).mono ?_
          rintro e w14 ⟨A14, c14, rfl, hrow14, hD14⟩
          have hC14 : Below v9.heap.size v9 w14 := hHeld.trans (hD14.mono hHeld.size)
          clear hD14
          refine hK.out _ _ hC14 (fun hHeld => ?_)
          clear hK K
          try simp only [Act.put, List.getElem_toArray, List.getElem_cons_succ, List.getElem_cons_zero, List.setIfInBounds_toArray, List.set_cons_zero, List.set_cons_succ]
          refine wpAnyH_ready (rs := [7]) (by kernel_rfl) (by simp) ?_
          refine AllReadyH.cons rfl (fun K hK => ?_) AllReadyH.nil
          go_simp
          refine (same_true A14 A9 c14 c9 _ m9 F.length F _ rfl hrow14 (HRO.out _ hHeld) (by omega)).mono ?_
          rintro e w15 ⟨rfl, hD15⟩
          have hC15 : Below v9.heap.size v9 w15 := hHeld.trans (hD15.mono hHeld.size)
          clear hD15 hrow14
          refine hK.out _ _ hC15 (fun hHeld => ?_)
          clear hK K
          try simp only [Act.put, List.getElem_toArray, List.getElem_cons_succ, List.getElem_cons_zero, List.setIfInBounds_toArray, List.set_cons_zero, List.set_cons_succ]
          refine wpAnyH_take (i := 8) (v := .bool false) rfl (by kernel_rfl) (by kernel_rfl) (by kernel_rfl) (fun _ _ _ h => h) (Or.inl ⟨by rfl, fun w' hw' => by go_simp⟩) hHeld ?_
          try simp only [Act.put, List.getElem_toArray, List.getElem_cons_succ, List.getElem_cons_zero, List.setIfInBounds_toArray, List.set_cons_zero, List.set_cons_succ]
          refine wpAnyH_take (i := 9) (v := .bool false) rfl (by kernel_rfl) (by kernel_rfl) (by kernel_rfl) (fun _ _ _ h => h) (Or.inl ⟨by rfl, fun w' hw' => by go_simp⟩) hHeld ?_
          try simp only [Act.put, List.getElem_toArray, List.getElem_cons_succ, List.getElem_cons_zero, List.setIfInBounds_toArray, List.set_cons_zero, List.set_cons_succ]
          refine wpAnyH_take (i := 10) (v := .bool false) rfl (by kernel_rfl) (by kernel_rfl) (by kernel_rfl) (fun _ _ _ h => h) (Or.inl ⟨by rfl, fun w' hw' => by go_simp⟩) hHeld ?_
          try simp only [Act.put, List.getElem_toArray, List.getElem_cons_succ, List.getElem_cons_zero, List.setIfInBounds_toArray, List.set_cons_zero, List.set_cons_succ]
          refine wpAnyH_take (i := 11) (v := .pointer (some ⟨g, 0, none⟩)) rfl (by kernel_rfl) (by kernel_rfl) (by kernel_rfl) (fun _ _ _ h => h) (Or.inl ⟨by rfl, fun w' hw' => by go_simp⟩) hHeld ?_
          try simp only [Act.put, List.getElem_toArray, List.getElem_cons_succ, List.getElem_cons_zero, List.setIfInBounds_toArray, List.set_cons_zero, List.set_cons_succ]
          refine wpAnyH_take (i := 12) (v := .agg il.toArray) rfl (by kernel_rfl) (by kernel_rfl) (by kernel_rfl) (fun _ _ _ h => h) (Or.inl ⟨by rfl, fun w' hw' => by exact exec_load rfl rfl (run_loadAt_mid w' eb 0 35 il _ (SG.out w' hw').2.2.1 hu35 rfl hiL)⟩) hHeld ?_
          try simp only [Act.put, List.getElem_toArray, List.getElem_cons_succ, List.getElem_cons_zero, List.setIfInBounds_toArray, List.set_cons_zero, List.set_cons_succ]
          refine wpAnyH_take (i := 14) (v := .agg lv9) rfl (by kernel_rfl) (by kernel_rfl) (by kernel_rfl) (fun _ _ _ h => h) (Or.inl ⟨by rfl, fun w' hw' => by exact exec_load rfl rfl (L48.out w' hw')⟩) hHeld ?_
          try simp only [Act.put, List.getElem_toArray, List.getElem_cons_succ, List.getElem_cons_zero, List.setIfInBounds_toArray, List.set_cons_zero, List.set_cons_succ]
          refine wpAnyH_take (i := 15) (v := .pointer (some ⟨eb, 0, none⟩)) rfl (by kernel_rfl) (by kernel_rfl) (by kernel_rfl) (fun _ _ _ h => h) (Or.inl ⟨by rfl, fun w' hw' => by go_simp⟩) hHeld ?_
          try simp only [Act.put, List.getElem_toArray, List.getElem_cons_succ, List.getElem_cons_zero, List.setIfInBounds_toArray, List.set_cons_zero, List.set_cons_succ]
          refine wpAnyH_take (i := 16) (v := .agg ol.toArray) rfl (by kernel_rfl) (by kernel_rfl) (by kernel_rfl) (fun _ _ _ h => h) (Or.inl ⟨by rfl, fun w' hw' => by exact exec_load rfl rfl (run_loadAt_mid w' eb 0 26 ol _ (SG.out w' hw').2.2.2.1 hu26 rfl hsa)⟩) hHeld ?_
          try simp only [Act.put, List.getElem_toArray, List.getElem_cons_succ, List.getElem_cons_zero, List.setIfInBounds_toArray, List.set_cons_zero, List.set_cons_succ]
          refine wpAnyH_take (i := 17) (v := .pointer (some ⟨eb, 33, none⟩)) rfl (by kernel_rfl) (by kernel_rfl) (by kernel_rfl) (fun _ _ _ h => h) (Or.inl ⟨by rfl, fun w' hw' => by go_simp⟩) hHeld ?_
          try simp only [Act.put, List.getElem_toArray, List.getElem_cons_succ, List.getElem_cons_zero, List.setIfInBounds_toArray, List.set_cons_zero, List.set_cons_succ]
          refine wpAnyH_take (i := 18) (v := .agg nl.toArray) rfl (by kernel_rfl) (by kernel_rfl) (by kernel_rfl) (fun _ _ _ h => h) (Or.inl ⟨by rfl, fun w' hw' => by exact exec_load rfl rfl (run_loadAt_mid w' eb 33 26 nl _ (SG.out w' hw').2.2.2.2 hu26 rfl hsb)⟩) hHeld ?_
          try simp only [Act.put, List.getElem_toArray, List.getElem_cons_succ, List.getElem_cons_zero, List.setIfInBounds_toArray, List.set_cons_zero, List.set_cons_succ]
          refine wpAnyH_ready (rs := [13]) (by kernel_rfl) (by simp) ?_
          refine AllReadyH.cons rfl (fun K hK => ?_) AllReadyH.nil
          go_simp
          refine (HH.out _ hHeld).mono ?_
          rintro e w16 ⟨rfl, hD16⟩
          have hC16 : Below v9.heap.size v9 w16 := hHeld.trans (hD16.mono hHeld.size)
          clear hD16
          refine hK.out _ _ hC16 (fun hHeld => ?_)
          clear hK K
          try simp only [Act.put, List.getElem_toArray, List.getElem_cons_succ, List.getElem_cons_zero, List.setIfInBounds_toArray, List.set_cons_zero, List.set_cons_succ]
          refine wpAnyH_ready (rs := [19]) (by kernel_rfl) (by simp) ?_
          refine AllReadyH.cons rfl (fun K hK => ?_) AllReadyH.nil
          go_simp
          refine (RH.out _ hHeld).mono ?_
          rintro e w17 ⟨rfl, hD17⟩
          have hC17 : Below v9.heap.size v9 w17 := hHeld.trans (hD17.mono hHeld.size)
          clear hD17
          refine hK.out _ _ hC17 (fun hHeld => ?_)
          clear hK K
          try simp only [Act.put, List.getElem_toArray, List.getElem_cons_succ, List.getElem_cons_zero, List.setIfInBounds_toArray, List.set_cons_zero, List.set_cons_succ]
          refine wpAnyH_take (i := 20) (v := .bool false) rfl (by kernel_rfl) (by kernel_rfl) (by kernel_rfl) (fun _ _ _ h => h) (Or.inl ⟨by rfl, fun w' hw' => by go_simp⟩) hHeld ?_
          try simp only [Act.put, List.getElem_toArray, List.getElem_cons_succ, List.getElem_cons_zero, List.setIfInBounds_toArray, List.set_cons_zero, List.set_cons_succ]
          refine wpAnyH_take (i := 21) (v := .bool false) rfl (by kernel_rfl) (by kernel_rfl) (by kernel_rfl) (fun _ _ _ h => h) (Or.inl ⟨by rfl, fun w' hw' => by go_simp⟩) hHeld ?_
          try simp only [Act.put, List.getElem_toArray, List.getElem_cons_succ, List.getElem_cons_zero, List.setIfInBounds_toArray, List.set_cons_zero, List.set_cons_succ]
          refine wpAnyH_done (by kernel_rfl) ?_ _
          have HDZ := Lib.hid (HD9.out.below_ hHeld)
          have HTZ := Lib.hid (TQ9.out.below hHeld)
          clear hHeld HD9 TQ9 HE9 SG L48 HO HH RH HRO hu35 hu26 hu48 hiL s48' hsa hsb HF
          go_wp2_with fail
          go_roundw
          case rel => exact ⟨i + 1, F, _, by omega, by omega, by go_num, rfl, HDZ.out, HTZ.out, by omega⟩
          case measure => first | (simp [intOf]; done) | (simp [intOf]; omega)
        · rcases Bool.eq_false_or_eq_true (bits BinOp.and IntKind.i64 kd 3 == 1) with hk1 | hk1
          · have h1 := hd_done HD0.out x
            rw [HWV.out] at h1
            have H1 := Lib.hid h1
            clear h1
            obtain ⟨q, hq⟩ : ∃ q, (lk E x).isSome = q := ⟨_, rfl⟩
            rw [hq] at H1
            obtain ⟨F, hFq⟩ : ∃ F, dnE E x = F := ⟨_, rfl⟩
            have hFl : F.length ≤ i + 1 := by rw [← hFq]; exact Nat.le_trans (by unfold dnE; split; exact List.length_filter_le _ _; exact Nat.le_refl _) (show E.length ≤ i + 1 by omega)
            rw [hFq] at H1
            go_wp2_with (refine wpList_load_range 35 (.tmp 19) eb 0 il.toArray _ rfl rfl rfl Try.underlying35 rfl HI.out HRE.out ?_)
            refine H1.out.mono ?_
            rintro e w6 ⟨rfl, hd6, hg6⟩
            have tq6 := TQ0.out.tab HD0.out.ht.tb.tab hg6
            have he6 := HE0.out.grown hg6 (fun e => hbe (by injection e with e; exact e.symm))
            obtain ⟨A, c, m, hT6, hO6⟩ := tq6.ex
            have R := rdone_any a0 a1 a2 A E.length c m E x w6 hO6 rfl (by omega) hd0.ht.tb.srt
            rw [KX.out, KY.out, hq, hFq] at R
            have R6 := Lib.hid R
            have HT6 := Lib.hid hT6
            have HE6 := Lib.hid he6
            have HD6 := Lib.hid hd6
            have hrs := HSUB.out w6 he6
            have RO := Lib.hid hrs.2.1
            have RN := Lib.hid hrs.2.2
            have RT := Lib.hid hT6.range
            clear R hT6 hO6 tq6 he6 hd6 hg6 hrs H1 HE0 HD0 TQ0 HBV hd0 hkd0 HRE hFq hq
            go_wp2_with (first
              | (refine wpList_load_range 48 (.tmp 14) gt 0 (tcells a0 a1 a2 (.slice A E.length c)) _ rfl rfl rfl Try.underlying48 rfl (size48 _ _ _ _) RT.out ?_)
              | (refine wpList_load_range 26 (.tmp 144) eb 0 ol.toArray _ rfl rfl rfl Try.underlying26 rfl (by simpa using S1.out) (by simpa using RO.out) ?_)
              | (refine wpList_load_range 26 (.tmp 146) eb 33 nl.toArray _ rfl rfl rfl Try.underlying26 rfl (by simpa using S2.out) (by simpa using RN.out) ?_))
            refine R6.out.mono ?_
            rintro e w7 ⟨A', c', m', rfl, hO7, hB7⟩
            have HT7 := HT6.out.below hB7 HT6.out.lt
            have HW8 := ((Below.refl w7.heap.size w7).alloc (Nat.le_refl _) (.cells (tcells a0 a1 a2 (.slice A' F.length c')) 48))
            have hT8 := HT7.below HW8 HT7.lt
            have hE8 := (HE6.out.below hB7 HE6.out.lt).below HW8 (HE6.out.below hB7 HE6.out.lt).lt
            have hD8 := (HD6.out.below_ hB7).below_ HW8
            have hO8 := hO7.kept (grown_below HW8 none) (own_ne fun k e => by cases e)
            have HT8 := Lib.hid hT8
            have HE8 := Lib.hid hE8
            have HD8 := Lib.hid hD8
            have HO8 := Lib.hid hO8
            clear HT7 HW8 hT8 hE8 hD8 hO8 hO7 hB7 HT6 HE6 HD6 R6 RO RN RT
            unfold tv
            go_wp2_with (refine wpList_store_blk 48 (.tmp 14) (.tmp 151) gt (tcells a0 a1 a2 (.slice A E.length c)) (tcells a0 a1 a2 (.slice A' F.length c')) rfl rfl rfl rfl (size48 _ _ _ _) HT8.out rfl (tcells_ones _ _ _ _ _ _) ?_)
            intro v9 kb9 kg9 _
            have HD9 := Lib.hid (hd_grown HD8.out HT8.out (by decide) (by decide) kg9 hgt0)
            have TQ9 := Lib.hid (TQ.set HT8.out kb9 kg9 HO8.out)
            have HE9 := Lib.hid (HE8.out.grown kg9 (fun e => hge (by injection e with e; exact e.symm)))
            clear kb9 kg9 HD8 HT8 HE8 HO8
            go_wp2_with fail
            obtain ⟨A9, c9, m9, hT9, hO9⟩ := TQ9.out.ex
            obtain ⟨lv9, hlv9⟩ : ∃ v, tcells a0 a1 a2 (.slice A9 F.length c9) = v := ⟨_, rfl⟩
            have s48 := size48 a0 a1 a2 (.slice A9 F.length c9)
            rw [hlv9] at s48
            have HF := Lib.hid hlv9
            have hu35 := Try.underlying35
            have hu26 := Try.underlying26
            have hu48 := Try.underlying48
            have hiL : (Try.prog.info? 35).map (·.size) = some il.length := by simpa using HI.out
            have s48' : (Try.prog.info? 48).map (·.size) = some lv9.toList.length := by simpa using s48
            have SG : Hid (∀ w', Below v9.heap.size v9 w' → w'.cell? ⟨gt, 3, none⟩ = some (.slice A9 F.length c9) ∧ w'.rangeAt gt 0 lv9.toList ∧ w'.rangeAt eb 0 il ∧ w'.rangeAt eb 0 ol ∧ w'.rangeAt eb 33 nl) := fun w' hw' => by
              have hb := hT9.below hw' hT9.lt
              have he := HSUB.out w' (HE9.out.below hw' HE9.out.lt)
              refine ⟨hb.cell 3, ?_, he.1, he.2.1, he.2.2⟩
              rw [hlv9] at hb
              exact hb.range
            have L48 := Lib.hid (show ∀ w', Below v9.heap.size v9 w' → (Instr.loadAt 48 (.pointer (some ⟨gt, 0, none⟩))).run Try.prog w' = .ok (.agg lv9) w' from fun w' hw' => by have h := run_loadAt_mid w' gt 0 48 lv9.toList _ (SG.out w' hw').2.1 hu48 rfl s48'; simpa using h)
            have HO := Lib.hid (show ∀ w', Below v9.heap.size v9 w' → Calls Try.prog 14 #[.pointer (some ⟨g, 0, none⟩)] w' fun e w'' => ∃ A c, e = .returned (.slice A F.length c) ∧ w''.ownsRow w'.heap.size 35 66 (.slice A F.length c) F.length (wrow (keysE F)) ∧ Below w'.heap.size w' w'' from fun w' hw' => (hd_open (HD9.out.below_ hw') (by omega)).mono (by rintro e w'' ⟨A, c, rfl, h1, _, h2⟩; exact ⟨A, c, rfl, h1, h2⟩))
            have HH := Lib.hid (show ∀ w', Below v9.heap.size v9 w' → Calls Try.prog 13 #[.pointer (some ⟨g, 0, none⟩), .agg il.toArray] w' fun e w'' => e = .returned (.bool (lk F x).isSome) ∧ Below w'.heap.size w' w'' from fun w' hw' => by
              have h := hd_has (HD9.out.below_ hw') x
              rw [HWV.out] at h
              exact h.mono (by rintro e w'' ⟨rfl, _, h2⟩; exact ⟨rfl, h2⟩))
            have HRO := Lib.hid (show ∀ w', Below v9.heap.size v9 w' → w'.ownsRow m9 78 68 (.slice A9 F.length c9) F.length (qrow F) from fun w' hw' => hO9.kept (grown_below hw' none) (own_ne fun k e => by cases e))
            have RH := Lib.hid (show ∀ w', Below v9.heap.size v9 w' → Calls Try.prog 21 #[.agg lv9, .agg ol.toArray, .agg nl.toArray] w' fun e w'' => e = .returned (.bool (lk F x).isSome) ∧ Below w'.heap.size w' w'' from fun w' hw' => by
              have h := rhas_any a0 a1 a2 A9 F.length c9 m9 F x w' (HRO.out w' hw') rfl (by omega)
              rw [KX.out, KY.out] at h
              rw [← HF.out]
              exact h.mono (by rintro e w'' ⟨rfl, h2⟩; exact ⟨rfl, h2.below⟩))
            obtain ⟨q9, hq9⟩ : ∃ q, (lk F x).isSome = q := ⟨_, rfl⟩
            rw [hq9] at HH RH
            have hsa := S1.out
            have hsb := S2.out
            clear hT9 hO9 hlv9 s48 hq9
            refine wp_region_held_drew (S := (fun w' => Below v9.heap.size v9 w')) (by kernel_rfl) (below_dr (Below.refl _ _)) (fun hHeld => ?_)
            refine wpAnyH_take (i := 0) (v := .bool true) rfl (by kernel_rfl) (by kernel_rfl) (by kernel_rfl) (fun _ _ _ h => h) (Or.inl ⟨by rfl, fun w' hw' => by go_simp⟩) hHeld ?_
            try simp only [Act.put, List.getElem_toArray, List.getElem_cons_succ, List.getElem_cons_zero, List.setIfInBounds_toArray, List.set_cons_zero, List.set_cons_succ]
            refine wpAnyH_take (i := 1) (v := .bool false) rfl (by kernel_rfl) (by kernel_rfl) (by kernel_rfl) (fun _ _ _ h => h) (Or.inl ⟨by rfl, fun w' hw' => by go_simp⟩) hHeld ?_
            try simp only [Act.put, List.getElem_toArray, List.getElem_cons_succ, List.getElem_cons_zero, List.setIfInBounds_toArray, List.set_cons_zero, List.set_cons_succ]
            refine wpAnyH_take (i := 2) (v := .bool false) rfl (by kernel_rfl) (by kernel_rfl) (by kernel_rfl) (fun _ _ _ h => h) (Or.inl ⟨by rfl, fun w' hw' => by go_simp⟩) hHeld ?_
            try simp only [Act.put, List.getElem_toArray, List.getElem_cons_succ, List.getElem_cons_zero, List.setIfInBounds_toArray, List.set_cons_zero, List.set_cons_succ]
            refine wpAnyH_take (i := 3) (v := .pointer (some ⟨g, 0, none⟩)) rfl (by kernel_rfl) (by kernel_rfl) (by kernel_rfl) (fun _ _ _ h => h) (Or.inl ⟨by rfl, fun w' hw' => by go_simp⟩) hHeld ?_
            try simp only [Act.put, List.getElem_toArray, List.getElem_cons_succ, List.getElem_cons_zero, List.setIfInBounds_toArray, List.set_cons_zero, List.set_cons_succ]
            refine wpAnyH_take (i := 5) (v := .pointer (some ⟨gt, 3, none⟩)) rfl (by kernel_rfl) (by kernel_rfl) (by kernel_rfl) (fun _ _ _ h => h) (Or.inl ⟨by rfl, fun w' hw' => by go_simp⟩) hHeld ?_
            try simp only [Act.put, List.getElem_toArray, List.getElem_cons_succ, List.getElem_cons_zero, List.setIfInBounds_toArray, List.set_cons_zero, List.set_cons_succ]
            refine wpAnyH_take (i := 6) (v := .slice A9 F.length c9) rfl (by kernel_rfl) (by kernel_rfl) (by kernel_rfl) (fun _ _ _ h => h) (Or.inl ⟨by rfl, fun w' hw' => by have hc := (SG.out w' hw').1; go_simp⟩) hHeld ?_
            try simp only [Act.put, List.getElem_toArray, List.getElem_cons_succ, List.getElem_cons_zero, List.setIfInBounds_toArray, List.set_cons_zero, List.set_cons_succ]
            refine wpAnyH_ready (rs := [4]) (by kernel_rfl) (by simp) ?_
            refine AllReadyH.cons rfl (fun K hK => ?_) AllReadyH.nil
            go_simp
            refine (HO.out _ hHeld).mono ?_
            rintro e w14 ⟨A14, c14, rfl, hrow14, hD14⟩
            have hC14 : Below v9.heap.size v9 w14 := hHeld.trans (hD14.mono hHeld.size)
            clear hD14
            refine hK.out _ _ hC14 (fun hHeld => ?_)
            clear hK K
            try simp only [Act.put, List.getElem_toArray, List.getElem_cons_succ, List.getElem_cons_zero, List.setIfInBounds_toArray, List.set_cons_zero, List.set_cons_succ]
            refine wpAnyH_ready (rs := [7]) (by kernel_rfl) (by simp) ?_
            refine AllReadyH.cons rfl (fun K hK => ?_) AllReadyH.nil
            go_simp
            refine (same_true A14 A9 c14 c9 _ m9 F.length F _ rfl hrow14 (HRO.out _ hHeld) (by omega)).mono ?_
            rintro e w15 ⟨rfl, hD15⟩
            have hC15 : Below v9.heap.size v9 w15 := hHeld.trans (hD15.mono hHeld.size)
            clear hD15 hrow14
            refine hK.out _ _ hC15 (fun hHeld => ?_)
            clear hK K
            try simp only [Act.put, List.getElem_toArray, List.getElem_cons_succ, List.getElem_cons_zero, List.setIfInBounds_toArray, List.set_cons_zero, List.set_cons_succ]
            refine wpAnyH_take (i := 8) (v := .bool false) rfl (by kernel_rfl) (by kernel_rfl) (by kernel_rfl) (fun _ _ _ h => h) (Or.inl ⟨by rfl, fun w' hw' => by go_simp⟩) hHeld ?_
            try simp only [Act.put, List.getElem_toArray, List.getElem_cons_succ, List.getElem_cons_zero, List.setIfInBounds_toArray, List.set_cons_zero, List.set_cons_succ]
            refine wpAnyH_take (i := 9) (v := .bool false) rfl (by kernel_rfl) (by kernel_rfl) (by kernel_rfl) (fun _ _ _ h => h) (Or.inl ⟨by rfl, fun w' hw' => by go_simp⟩) hHeld ?_
            try simp only [Act.put, List.getElem_toArray, List.getElem_cons_succ, List.getElem_cons_zero, List.setIfInBounds_toArray, List.set_cons_zero, List.set_cons_succ]
            refine wpAnyH_take (i := 10) (v := .bool false) rfl (by kernel_rfl) (by kernel_rfl) (by kernel_rfl) (fun _ _ _ h => h) (Or.inl ⟨by rfl, fun w' hw' => by go_simp⟩) hHeld ?_
            try simp only [Act.put, List.getElem_toArray, List.getElem_cons_succ, List.getElem_cons_zero, List.setIfInBounds_toArray, List.set_cons_zero, List.set_cons_succ]
            refine wpAnyH_take (i := 11) (v := .pointer (some ⟨g, 0, none⟩)) rfl (by kernel_rfl) (by kernel_rfl) (by kernel_rfl) (fun _ _ _ h => h) (Or.inl ⟨by rfl, fun w' hw' => by go_simp⟩) hHeld ?_
            try simp only [Act.put, List.getElem_toArray, List.getElem_cons_succ, List.getElem_cons_zero, List.setIfInBounds_toArray, List.set_cons_zero, List.set_cons_succ]
            refine wpAnyH_take (i := 12) (v := .agg il.toArray) rfl (by kernel_rfl) (by kernel_rfl) (by kernel_rfl) (fun _ _ _ h => h) (Or.inl ⟨by rfl, fun w' hw' => by exact exec_load rfl rfl (run_loadAt_mid w' eb 0 35 il _ (SG.out w' hw').2.2.1 hu35 rfl hiL)⟩) hHeld ?_
            try simp only [Act.put, List.getElem_toArray, List.getElem_cons_succ, List.getElem_cons_zero, List.setIfInBounds_toArray, List.set_cons_zero, List.set_cons_succ]
            refine wpAnyH_take (i := 14) (v := .agg lv9) rfl (by kernel_rfl) (by kernel_rfl) (by kernel_rfl) (fun _ _ _ h => h) (Or.inl ⟨by rfl, fun w' hw' => by exact exec_load rfl rfl (L48.out w' hw')⟩) hHeld ?_
            try simp only [Act.put, List.getElem_toArray, List.getElem_cons_succ, List.getElem_cons_zero, List.setIfInBounds_toArray, List.set_cons_zero, List.set_cons_succ]
            refine wpAnyH_take (i := 15) (v := .pointer (some ⟨eb, 0, none⟩)) rfl (by kernel_rfl) (by kernel_rfl) (by kernel_rfl) (fun _ _ _ h => h) (Or.inl ⟨by rfl, fun w' hw' => by go_simp⟩) hHeld ?_
            try simp only [Act.put, List.getElem_toArray, List.getElem_cons_succ, List.getElem_cons_zero, List.setIfInBounds_toArray, List.set_cons_zero, List.set_cons_succ]
            refine wpAnyH_take (i := 16) (v := .agg ol.toArray) rfl (by kernel_rfl) (by kernel_rfl) (by kernel_rfl) (fun _ _ _ h => h) (Or.inl ⟨by rfl, fun w' hw' => by exact exec_load rfl rfl (run_loadAt_mid w' eb 0 26 ol _ (SG.out w' hw').2.2.2.1 hu26 rfl hsa)⟩) hHeld ?_
            try simp only [Act.put, List.getElem_toArray, List.getElem_cons_succ, List.getElem_cons_zero, List.setIfInBounds_toArray, List.set_cons_zero, List.set_cons_succ]
            refine wpAnyH_take (i := 17) (v := .pointer (some ⟨eb, 33, none⟩)) rfl (by kernel_rfl) (by kernel_rfl) (by kernel_rfl) (fun _ _ _ h => h) (Or.inl ⟨by rfl, fun w' hw' => by go_simp⟩) hHeld ?_
            try simp only [Act.put, List.getElem_toArray, List.getElem_cons_succ, List.getElem_cons_zero, List.setIfInBounds_toArray, List.set_cons_zero, List.set_cons_succ]
            refine wpAnyH_take (i := 18) (v := .agg nl.toArray) rfl (by kernel_rfl) (by kernel_rfl) (by kernel_rfl) (fun _ _ _ h => h) (Or.inl ⟨by rfl, fun w' hw' => by exact exec_load rfl rfl (run_loadAt_mid w' eb 33 26 nl _ (SG.out w' hw').2.2.2.2 hu26 rfl hsb)⟩) hHeld ?_
            try simp only [Act.put, List.getElem_toArray, List.getElem_cons_succ, List.getElem_cons_zero, List.setIfInBounds_toArray, List.set_cons_zero, List.set_cons_succ]
            refine wpAnyH_ready (rs := [13]) (by kernel_rfl) (by simp) ?_
            refine AllReadyH.cons rfl (fun K hK => ?_) AllReadyH.nil
            go_simp
            refine (HH.out _ hHeld).mono ?_
            rintro e w16 ⟨rfl, hD16⟩
            have hC16 : Below v9.heap.size v9 w16 := hHeld.trans (hD16.mono hHeld.size)
            clear hD16
            refine hK.out _ _ hC16 (fun hHeld => ?_)
            clear hK K
            try simp only [Act.put, List.getElem_toArray, List.getElem_cons_succ, List.getElem_cons_zero, List.setIfInBounds_toArray, List.set_cons_zero, List.set_cons_succ]
            refine wpAnyH_ready (rs := [19]) (by kernel_rfl) (by simp) ?_
            refine AllReadyH.cons rfl (fun K hK => ?_) AllReadyH.nil
            go_simp
            refine (RH.out _ hHeld).mono ?_
            rintro e w17 ⟨rfl, hD17⟩
            have hC17 : Below v9.heap.size v9 w17 := hHeld.trans (hD17.mono hHeld.size)
            clear hD17
            refine hK.out _ _ hC17 (fun hHeld => ?_)
            clear hK K
            try simp only [Act.put, List.getElem_toArray, List.getElem_cons_succ, List.getElem_cons_zero, List.setIfInBounds_toArray, List.set_cons_zero, List.set_cons_succ]
            refine wpAnyH_take (i := 20) (v := .bool false) rfl (by kernel_rfl) (by kernel_rfl) (by kernel_rfl) (fun _ _ _ h => h) (Or.inl ⟨by rfl, fun w' hw' => by go_simp⟩) hHeld ?_
            try simp only [Act.put, List.getElem_toArray, List.getElem_cons_succ, List.getElem_cons_zero, List.setIfInBounds_toArray, List.set_cons_zero, List.set_cons_succ]
            refine wpAnyH_take (i := 21) (v := .bool false) rfl (by kernel_rfl) (by kernel_rfl) (by kernel_rfl) (fun _ _ _ h => h) (Or.inl ⟨by rfl, fun w' hw' => by go_simp⟩) hHeld ?_
            try simp only [Act.put, List.getElem_toArray, List.getElem_cons_succ, List.getElem_cons_zero, List.setIfInBounds_toArray, List.set_cons_zero, List.set_cons_succ]
            refine wpAnyH_done (by kernel_rfl) ?_ _
            have HDZ := Lib.hid (HD9.out.below_ hHeld)
            have HTZ := Lib.hid (TQ9.out.below hHeld)
            clear hHeld HD9 TQ9 HE9 SG L48 HO HH RH HRO hu35 hu26 hu48 hiL s48' hsa hsb HF
            go_wp2_with fail
            go_roundw
            case rel => exact ⟨i + 1, F, _, by omega, by omega, by go_num, rfl, HDZ.out, HTZ.out, by omega⟩
            case measure => first | (simp [intOf]; done) | (simp [intOf]; omega)
          · obtain ⟨t, ht⟩ : ∃ t, tick a0 a1 a2 E s = t := ⟨_, rfl⟩
            have hle := tick_le a0 a1 a2 E s
            rw [ht] at hle
            obtain ⟨n1, hn1⟩ : ∃ n, t.asks.length = n := ⟨_, rfl⟩
            obtain ⟨n2, hn2⟩ : ∃ n, t.lost.length = n := ⟨_, rfl⟩
            obtain ⟨F, hFq⟩ : ∃ F, t.P = F := ⟨_, rfl⟩
            obtain ⟨sF, hsF⟩ : ∃ s', t.s = s' := ⟨_, rfl⟩
            rw [hn1, hn2, hFq] at hle
            obtain ⟨hl1', hl2', hl3'⟩ := hle
            have hFl : F.length ≤ i + 1 := by omega
            have h1 := hd_tick_n HD0.out (by omega) t ht n1 n2 hn1 hn2
            rw [hFq, hsF] at h1
            have H1 := Lib.hid h1
            have HTK := Lib.hid ht
            have HN1 := Lib.hid hn1
            have HN2 := Lib.hid hn2
            have HFQ := Lib.hid hFq
            have HSF := Lib.hid hsF
            clear h1 ht hn1 hn2 hFq hsF
            go_wp2_with fail
            refine H1.out.mono ?_
            rintro e w6 ⟨A1, c1, A2, c2, m1, rfl, ho1, ho2, hd6, h26⟩
            have tq6 := TQ0.out.two HD0.out.ht.tb.tab HD0.out.die h26
            have he6 := h26.blk HE0.out (fun e => hbe e.symm) hde
            obtain ⟨A, c, m, hT6, hO6⟩ := tq6.ex
            have R := rtick_n a0 a1 a2 A E.length c m E s w6 hO6 rfl (by omega) HNN.out hd0.ht.ok t HTK.out n1 n2 HN1.out HN2.out
            rw [HFQ.out, HSF.out] at R
            have R6 := Lib.hid R
            have HT6 := Lib.hid hT6
            have HE6 := Lib.hid he6
            have HD6 := Lib.hid hd6
            have O1 := Lib.hid ho1
            have O2 := Lib.hid ho2
            have RT := Lib.hid hT6.range
            have RO := Lib.hid trivial
            have RN := Lib.hid trivial
            clear R hT6 hO6 tq6 he6 hd6 h26 ho1 ho2 H1 HE0 HD0 TQ0 HBV hd0 hkd0 HRE
            go_wp2_with (refine wpList_load_range 48 (.tmp 14) gt 0 (tcells a0 a1 a2 (.slice A E.length c)) _ rfl rfl rfl Try.underlying48 rfl (size48 _ _ _ _) RT.out ?_)
            refine R6.out.mono ?_
            rintro e w7 ⟨A', c', m', A3, c3, A4, c4, AE, BE, rfl, hO7, ha7, hka, hna, hb7, hkb, hnb, hB7⟩
            have HT7 := HT6.out.below hB7 HT6.out.lt
            have HW8 := ((Below.refl w7.heap.size w7).alloc (Nat.le_refl _) (.cells (tcells a0 a1 a2 (.slice A' F.length c')) 48))
            have hT8 := HT7.below HW8 HT7.lt
            have hE8 := (HE6.out.below hB7 HE6.out.lt).below HW8 (HE6.out.below hB7 HE6.out.lt).lt
            have hD8 := (HD6.out.below_ hB7).below_ HW8
            have hO8 := hO7.kept (grown_below HW8 none) (own_ne fun k e => by cases e)
            have HT8 := Lib.hid hT8
            have HE8 := Lib.hid hE8
            have HD8 := Lib.hid hD8
            have HO8 := Lib.hid hO8
            have P1 := Lib.hid ((O1.out.kept (grown_below hB7 none) (own_ne fun k e => by cases e)).kept (grown_below HW8 none) (own_ne fun k e => by cases e))
            have P2 := Lib.hid ((O2.out.kept (grown_below hB7 none) (own_ne fun k e => by cases e)).kept (grown_below HW8 none) (own_ne fun k e => by cases e))
            have P3 := Lib.hid (ha7.kept (grown_below HW8 none) (own_ne fun k e => by cases e))
            have P4 := Lib.hid (hb7.kept (grown_below HW8 none) (own_ne fun k e => by cases e))
            have HKA := Lib.hid hka
            have HKB := Lib.hid hkb
            have HNA := Lib.hid hna
            have HNB := Lib.hid hnb
            clear ha7 hb7 hka hkb hna hnb O1 O2
            clear HT7 HW8 hT8 hE8 hD8 hO8 hO7 hB7 HT6 HE6 HD6 R6 RO RN RT
            unfold tv
            go_wp2_with (refine wpList_store_blk 48 (.tmp 14) (.tmp 107) gt (tcells a0 a1 a2 (.slice A E.length c)) (tcells a0 a1 a2 (.slice A' F.length c')) rfl rfl rfl rfl (size48 _ _ _ _) HT8.out rfl (tcells_ones _ _ _ _ _ _) ?_)
            intro v9 kb9 kg9 _
            have HD9 := Lib.hid (hd_grown HD8.out HT8.out (by decide) (by decide) kg9 hgt0)
            have TQ9 := Lib.hid (TQ.set HT8.out kb9 kg9 HO8.out)
            have HE9 := Lib.hid (HE8.out.grown kg9 (fun e => hge (by injection e with e; exact e.symm)))
            have Q1 := P1.out.kept kg9 (.inr (own_blk_ne P1.out HT8.out (by decide)))
            have Q2 := P2.out.kept kg9 (.inr (own_blk_ne P2.out HT8.out (by decide)))
            have Q3 := P3.out.kept kg9 (.inr (own_blk_ne P3.out HT8.out (by decide)))
            have Q4 := P4.out.kept kg9 (.inr (own_blk_ne P4.out HT8.out (by decide)))
            rw [← HKA.out] at Q1
            rw [← HKB.out] at Q2
            have C1 := Lib.hid (same_true A1 A3 c1 c3 _ _ n1 AE v9 HNA.out Q1 Q3 (by omega))
            have C2 := Lib.hid (show ∀ w', Below v9.heap.size v9 w' → Calls Try.prog 20 #[.slice A2 n2 c2, .slice A4 n2 c4] w' fun e w'' => e = .returned (.bool true) ∧ Below w'.heap.size w' w'' from fun w' hw' => same_true A2 A4 c2 c4 _ _ n2 BE w' HNB.out (Q2.kept (grown_below hw' none) (own_ne fun k e => by cases e)) (Q4.kept (grown_below hw' none) (own_ne fun k e => by cases e)) (by omega))
            clear kb9 kg9 HD8 HT8 HE8 HO8 P1 P2 P3 P4 Q1 Q2 Q3 Q4
            go_wp2_with fail
            refine C1.out.mono ?_
            rintro e w10 ⟨rfl, hB10⟩
            have C3 := Lib.hid (C2.out w10 hB10)
            have HD10 := Lib.hid (HD9.out.below_ hB10)
            have TQ10 := Lib.hid (TQ9.out.below hB10)
            have HE10 := Lib.hid (HE9.out.below hB10 HE9.out.lt)
            clear hB10 C1 C2 HD9 TQ9 HE9
            go_wp2_with fail
            refine C3.out.mono ?_
            rintro e v9' ⟨rfl, hB11⟩
            have HD9 := Lib.hid (HD10.out.below_ hB11)
            have TQ9 := Lib.hid (TQ10.out.below hB11)
            have HE9 := Lib.hid (HE10.out.below hB11 HE10.out.lt)
            clear hB11 C3 HD10 TQ10 HE10
            go_wp2_with fail
            obtain ⟨A9, c9, m9, hT9, hO9⟩ := TQ9.out.ex
            obtain ⟨lv9, hlv9⟩ : ∃ v, tcells a0 a1 a2 (.slice A9 F.length c9) = v := ⟨_, rfl⟩
            have s48 := size48 a0 a1 a2 (.slice A9 F.length c9)
            rw [hlv9] at s48
            have HF := Lib.hid hlv9
            have hu35 := Try.underlying35
            have hu26 := Try.underlying26
            have hu48 := Try.underlying48
            have hiL : (Try.prog.info? 35).map (·.size) = some il.length := by simpa using HI.out
            have s48' : (Try.prog.info? 48).map (·.size) = some lv9.toList.length := by simpa using s48
            have SG : Hid (∀ w', Below v9'.heap.size v9' w' → w'.cell? ⟨gt, 3, none⟩ = some (.slice A9 F.length c9) ∧ w'.rangeAt gt 0 lv9.toList ∧ w'.rangeAt eb 0 il ∧ w'.rangeAt eb 0 ol ∧ w'.rangeAt eb 33 nl) := fun w' hw' => by
              have hb := hT9.below hw' hT9.lt
              have he := HSUB.out w' (HE9.out.below hw' HE9.out.lt)
              refine ⟨hb.cell 3, ?_, he.1, he.2.1, he.2.2⟩
              rw [hlv9] at hb
              exact hb.range
            have L48 := Lib.hid (show ∀ w', Below v9'.heap.size v9' w' → (Instr.loadAt 48 (.pointer (some ⟨gt, 0, none⟩))).run Try.prog w' = .ok (.agg lv9) w' from fun w' hw' => by have h := run_loadAt_mid w' gt 0 48 lv9.toList _ (SG.out w' hw').2.1 hu48 rfl s48'; simpa using h)
            have HO := Lib.hid (show ∀ w', Below v9'.heap.size v9' w' → Calls Try.prog 14 #[.pointer (some ⟨g, 0, none⟩)] w' fun e w'' => ∃ A c, e = .returned (.slice A F.length c) ∧ w''.ownsRow w'.heap.size 35 66 (.slice A F.length c) F.length (wrow (keysE F)) ∧ Below w'.heap.size w' w'' from fun w' hw' => (hd_open (HD9.out.below_ hw') (by omega)).mono (by rintro e w'' ⟨A, c, rfl, h1, _, h2⟩; exact ⟨A, c, rfl, h1, h2⟩))
            have HH := Lib.hid (show ∀ w', Below v9'.heap.size v9' w' → Calls Try.prog 13 #[.pointer (some ⟨g, 0, none⟩), .agg il.toArray] w' fun e w'' => e = .returned (.bool (lk F x).isSome) ∧ Below w'.heap.size w' w'' from fun w' hw' => by
              have h := hd_has (HD9.out.below_ hw') x
              rw [HWV.out] at h
              exact h.mono (by rintro e w'' ⟨rfl, _, h2⟩; exact ⟨rfl, h2⟩))
            have HRO := Lib.hid (show ∀ w', Below v9'.heap.size v9' w' → w'.ownsRow m9 78 68 (.slice A9 F.length c9) F.length (qrow F) from fun w' hw' => hO9.kept (grown_below hw' none) (own_ne fun k e => by cases e))
            have RH := Lib.hid (show ∀ w', Below v9'.heap.size v9' w' → Calls Try.prog 21 #[.agg lv9, .agg ol.toArray, .agg nl.toArray] w' fun e w'' => e = .returned (.bool (lk F x).isSome) ∧ Below w'.heap.size w' w'' from fun w' hw' => by
              have h := rhas_any a0 a1 a2 A9 F.length c9 m9 F x w' (HRO.out w' hw') rfl (by omega)
              rw [KX.out, KY.out] at h
              rw [← HF.out]
              exact h.mono (by rintro e w'' ⟨rfl, h2⟩; exact ⟨rfl, h2.below⟩))
            obtain ⟨q9, hq9⟩ : ∃ q, (lk F x).isSome = q := ⟨_, rfl⟩
            rw [hq9] at HH RH
            have hsa := S1.out
            have hsb := S2.out
            clear hT9 hO9 hlv9 s48 hq9
            refine wp_region_held_drew (S := (fun w' => Below v9'.heap.size v9' w')) (by kernel_rfl) (below_dr (Below.refl _ _)) (fun hHeld => ?_)
            refine wpAnyH_take (i := 0) (v := .bool true) rfl (by kernel_rfl) (by kernel_rfl) (by kernel_rfl) (fun _ _ _ h => h) (Or.inl ⟨by rfl, fun w' hw' => by go_simp⟩) hHeld ?_
            try simp only [Act.put, List.getElem_toArray, List.getElem_cons_succ, List.getElem_cons_zero, List.setIfInBounds_toArray, List.set_cons_zero, List.set_cons_succ]
            refine wpAnyH_take (i := 1) (v := .bool false) rfl (by kernel_rfl) (by kernel_rfl) (by kernel_rfl) (fun _ _ _ h => h) (Or.inl ⟨by rfl, fun w' hw' => by go_simp⟩) hHeld ?_
            try simp only [Act.put, List.getElem_toArray, List.getElem_cons_succ, List.getElem_cons_zero, List.setIfInBounds_toArray, List.set_cons_zero, List.set_cons_succ]
            refine wpAnyH_take (i := 2) (v := .bool false) rfl (by kernel_rfl) (by kernel_rfl) (by kernel_rfl) (fun _ _ _ h => h) (Or.inl ⟨by rfl, fun w' hw' => by go_simp⟩) hHeld ?_
            try simp only [Act.put, List.getElem_toArray, List.getElem_cons_succ, List.getElem_cons_zero, List.setIfInBounds_toArray, List.set_cons_zero, List.set_cons_succ]
            refine wpAnyH_take (i := 3) (v := .pointer (some ⟨g, 0, none⟩)) rfl (by kernel_rfl) (by kernel_rfl) (by kernel_rfl) (fun _ _ _ h => h) (Or.inl ⟨by rfl, fun w' hw' => by go_simp⟩) hHeld ?_
            try simp only [Act.put, List.getElem_toArray, List.getElem_cons_succ, List.getElem_cons_zero, List.setIfInBounds_toArray, List.set_cons_zero, List.set_cons_succ]
            refine wpAnyH_take (i := 5) (v := .pointer (some ⟨gt, 3, none⟩)) rfl (by kernel_rfl) (by kernel_rfl) (by kernel_rfl) (fun _ _ _ h => h) (Or.inl ⟨by rfl, fun w' hw' => by go_simp⟩) hHeld ?_
            try simp only [Act.put, List.getElem_toArray, List.getElem_cons_succ, List.getElem_cons_zero, List.setIfInBounds_toArray, List.set_cons_zero, List.set_cons_succ]
            refine wpAnyH_take (i := 6) (v := .slice A9 F.length c9) rfl (by kernel_rfl) (by kernel_rfl) (by kernel_rfl) (fun _ _ _ h => h) (Or.inl ⟨by rfl, fun w' hw' => by have hc := (SG.out w' hw').1; go_simp⟩) hHeld ?_
            try simp only [Act.put, List.getElem_toArray, List.getElem_cons_succ, List.getElem_cons_zero, List.setIfInBounds_toArray, List.set_cons_zero, List.set_cons_succ]
            refine wpAnyH_ready (rs := [4]) (by kernel_rfl) (by simp) ?_
            refine AllReadyH.cons rfl (fun K hK => ?_) AllReadyH.nil
            go_simp
            refine (HO.out _ hHeld).mono ?_
            rintro e w14 ⟨A14, c14, rfl, hrow14, hD14⟩
            have hC14 : Below v9'.heap.size v9' w14 := hHeld.trans (hD14.mono hHeld.size)
            clear hD14
            refine hK.out _ _ hC14 (fun hHeld => ?_)
            clear hK K
            try simp only [Act.put, List.getElem_toArray, List.getElem_cons_succ, List.getElem_cons_zero, List.setIfInBounds_toArray, List.set_cons_zero, List.set_cons_succ]
            refine wpAnyH_ready (rs := [7]) (by kernel_rfl) (by simp) ?_
            refine AllReadyH.cons rfl (fun K hK => ?_) AllReadyH.nil
            go_simp
            refine (same_true A14 A9 c14 c9 _ m9 F.length F _ rfl hrow14 (HRO.out _ hHeld) (by omega)).mono ?_
            rintro e w15 ⟨rfl, hD15⟩
            have hC15 : Below v9'.heap.size v9' w15 := hHeld.trans (hD15.mono hHeld.size)
            clear hD15 hrow14
            refine hK.out _ _ hC15 (fun hHeld => ?_)
            clear hK K
            try simp only [Act.put, List.getElem_toArray, List.getElem_cons_succ, List.getElem_cons_zero, List.setIfInBounds_toArray, List.set_cons_zero, List.set_cons_succ]
            refine wpAnyH_take (i := 8) (v := .bool false) rfl (by kernel_rfl) (by kernel_rfl) (by kernel_rfl) (fun _ _ _ h => h) (Or.inl ⟨by rfl, fun w' hw' => by go_simp⟩) hHeld ?_
            try simp only [Act.put, List.getElem_toArray, List.getElem_cons_succ, List.getElem_cons_zero, List.setIfInBounds_toArray, List.set_cons_zero, List.set_cons_succ]
            refine wpAnyH_take (i := 9) (v := .bool false) rfl (by kernel_rfl) (by kernel_rfl) (by kernel_rfl) (fun _ _ _ h => h) (Or.inl ⟨by rfl, fun w' hw' => by go_simp⟩) hHeld ?_
            try simp only [Act.put, List.getElem_toArray, List.getElem_cons_succ, List.getElem_cons_zero, List.setIfInBounds_toArray, List.set_cons_zero, List.set_cons_succ]
            refine wpAnyH_take (i := 10) (v := .bool false) rfl (by kernel_rfl) (by kernel_rfl) (by kernel_rfl) (fun _ _ _ h => h) (Or.inl ⟨by rfl, fun w' hw' => by go_simp⟩) hHeld ?_
            try simp only [Act.put, List.getElem_toArray, List.getElem_cons_succ, List.getElem_cons_zero, List.setIfInBounds_toArray, List.set_cons_zero, List.set_cons_succ]
            refine wpAnyH_take (i := 11) (v := .pointer (some ⟨g, 0, none⟩)) rfl (by kernel_rfl) (by kernel_rfl) (by kernel_rfl) (fun _ _ _ h => h) (Or.inl ⟨by rfl, fun w' hw' => by go_simp⟩) hHeld ?_
            try simp only [Act.put, List.getElem_toArray, List.getElem_cons_succ, List.getElem_cons_zero, List.setIfInBounds_toArray, List.set_cons_zero, List.set_cons_succ]
            refine wpAnyH_take (i := 12) (v := .agg il.toArray) rfl (by kernel_rfl) (by kernel_rfl) (by kernel_rfl) (fun _ _ _ h => h) (Or.inl ⟨by rfl, fun w' hw' => by exact exec_load rfl rfl (run_loadAt_mid w' eb 0 35 il _ (SG.out w' hw').2.2.1 hu35 rfl hiL)⟩) hHeld ?_
            try simp only [Act.put, List.getElem_toArray, List.getElem_cons_succ, List.getElem_cons_zero, List.setIfInBounds_toArray, List.set_cons_zero, List.set_cons_succ]
            refine wpAnyH_take (i := 14) (v := .agg lv9) rfl (by kernel_rfl) (by kernel_rfl) (by kernel_rfl) (fun _ _ _ h => h) (Or.inl ⟨by rfl, fun w' hw' => by exact exec_load rfl rfl (L48.out w' hw')⟩) hHeld ?_
            try simp only [Act.put, List.getElem_toArray, List.getElem_cons_succ, List.getElem_cons_zero, List.setIfInBounds_toArray, List.set_cons_zero, List.set_cons_succ]
            refine wpAnyH_take (i := 15) (v := .pointer (some ⟨eb, 0, none⟩)) rfl (by kernel_rfl) (by kernel_rfl) (by kernel_rfl) (fun _ _ _ h => h) (Or.inl ⟨by rfl, fun w' hw' => by go_simp⟩) hHeld ?_
            try simp only [Act.put, List.getElem_toArray, List.getElem_cons_succ, List.getElem_cons_zero, List.setIfInBounds_toArray, List.set_cons_zero, List.set_cons_succ]
            refine wpAnyH_take (i := 16) (v := .agg ol.toArray) rfl (by kernel_rfl) (by kernel_rfl) (by kernel_rfl) (fun _ _ _ h => h) (Or.inl ⟨by rfl, fun w' hw' => by exact exec_load rfl rfl (run_loadAt_mid w' eb 0 26 ol _ (SG.out w' hw').2.2.2.1 hu26 rfl hsa)⟩) hHeld ?_
            try simp only [Act.put, List.getElem_toArray, List.getElem_cons_succ, List.getElem_cons_zero, List.setIfInBounds_toArray, List.set_cons_zero, List.set_cons_succ]
            refine wpAnyH_take (i := 17) (v := .pointer (some ⟨eb, 33, none⟩)) rfl (by kernel_rfl) (by kernel_rfl) (by kernel_rfl) (fun _ _ _ h => h) (Or.inl ⟨by rfl, fun w' hw' => by go_simp⟩) hHeld ?_
            try simp only [Act.put, List.getElem_toArray, List.getElem_cons_succ, List.getElem_cons_zero, List.setIfInBounds_toArray, List.set_cons_zero, List.set_cons_succ]
            refine wpAnyH_take (i := 18) (v := .agg nl.toArray) rfl (by kernel_rfl) (by kernel_rfl) (by kernel_rfl) (fun _ _ _ h => h) (Or.inl ⟨by rfl, fun w' hw' => by exact exec_load rfl rfl (run_loadAt_mid w' eb 33 26 nl _ (SG.out w' hw').2.2.2.2 hu26 rfl hsb)⟩) hHeld ?_
            try simp only [Act.put, List.getElem_toArray, List.getElem_cons_succ, List.getElem_cons_zero, List.setIfInBounds_toArray, List.set_cons_zero, List.set_cons_succ]
            refine wpAnyH_ready (rs := [13]) (by kernel_rfl) (by simp) ?_
            refine AllReadyH.cons rfl (fun K hK => ?_) AllReadyH.nil
            go_simp
            refine (HH.out _ hHeld).mono ?_
            rintro e w16 ⟨rfl, hD16⟩
            have hC16 : Below v9'.heap.size v9' w16 := hHeld.trans (hD16.mono hHeld.size)
            clear hD16
            refine hK.out _ _ hC16 (fun hHeld => ?_)
            clear hK K
            try simp only [Act.put, List.getElem_toArray, List.getElem_cons_succ, List.getElem_cons_zero, List.setIfInBounds_toArray, List.set_cons_zero, List.set_cons_succ]
            refine wpAnyH_ready (rs := [19]) (by kernel_rfl) (by simp) ?_
            refine AllReadyH.cons rfl (fun K hK => ?_) AllReadyH.nil
            go_simp
            refine (RH.out _ hHeld).mono ?_
            rintro e w17 ⟨rfl, hD17⟩
            have hC17 : Below v9'.heap.size v9' w17 := hHeld.trans (hD17.mono hHeld.size)
            clear hD17
            refine hK.out _ _ hC17 (fun hHeld => ?_)
            clear hK K
            try simp only [Act.put, List.getElem_toArray, List.getElem_cons_succ, List.getElem_cons_zero, List.setIfInBounds_toArray, List.set_cons_zero, List.set_cons_succ]
            refine wpAnyH_take (i := 20) (v := .bool false) rfl (by kernel_rfl) (by kernel_rfl) (by kernel_rfl) (fun _ _ _ h => h) (Or.inl ⟨by rfl, fun w' hw' => by go_simp⟩) hHeld ?_
            try simp only [Act.put, List.getElem_toArray, List.getElem_cons_succ, List.getElem_cons_zero, List.setIfInBounds_toArray, List.set_cons_zero, List.set_cons_succ]
            refine wpAnyH_take (i := 21) (v := .bool false) rfl (by kernel_rfl) (by kernel_rfl) (by kernel_rfl) (fun _ _ _ h => h) (Or.inl ⟨by rfl, fun w' hw' => by go_simp⟩) hHeld ?_
            try simp only [Act.put, List.getElem_toArray, List.getElem_cons_succ, List.getElem_cons_zero, List.setIfInBounds_toArray, List.set_cons_zero, List.set_cons_succ]
            refine wpAnyH_done (by kernel_rfl) ?_ _
            have HDZ := Lib.hid (HD9.out.below_ hHeld)
            have HTZ := Lib.hid (TQ9.out.below hHeld)
            clear hHeld HD9 TQ9 HE9 SG L48 HO HH RH HRO hu35 hu26 hu48 hiL s48' hsa hsb HF
            go_wp2_with fail
            go_roundw
            case rel => exact ⟨i + 1, F, _, by omega, by omega, by go_num, rfl, HDZ.out, HTZ.out, by omega⟩
            case measure => first | (simp [intOf]; done) | (simp [intOf]; omega)
      · have HB9 := Lib.hid hd.ht.below
        have hcase : ¬ i < len4 ∨ ¬ i < 80 := by omega
        clear hd htq
        rcases Nat.lt_or_ge i len4 with hl1 | hl1
        · have hl2 : ¬ (i : Int) < 80 := by omega
          go_wp2_with fail
          refine (tick_nil _ _).mono ?_
          rintro e w20 ⟨rfl, hB20⟩
          have HB20 := Lib.hid (HB9.out.trans (hB20.mono HB9.out.size))
          clear hB20 HB9
          go_wp2_with (first | (refine wpList_build_none rfl rfl ?_) | (refine wpList_unguard (by kernel_rfl) ?_; refine wpList_build_none rfl rfl ?_))
          refine (start_nil _ _).mono ?_
          rintro e w21 ⟨rfl, hB21⟩
          have HB21 := Lib.hid (HB20.out.trans (hB21.mono HB20.out.size))
          clear hB21 HB20
          go_wp2_with (first | (refine wpList_build_none rfl rfl ?_) | (refine wpList_unguard (by kernel_rfl) ?_; refine wpList_build_none rfl rfl ?_))
          refine (done_nil _ _).mono ?_
          rintro e w22 ⟨rfl, hB22⟩
          have HB22 := Lib.hid (HB21.out.trans (hB22.mono HB21.out.size))
          clear hB22 HB21
          go_wp2_with (first | (refine wpList_build_none rfl rfl ?_) | (refine wpList_unguard (by kernel_rfl) ?_; refine wpList_build_none rfl rfl ?_))
          refine (has_nil _ _).mono ?_
          rintro e w23 ⟨rfl, hB23⟩
          have HB23 := Lib.hid (HB22.out.trans (hB23.mono HB22.out.size))
          clear hB23 HB22
          go_wp2_with (first | (refine wpList_build_none rfl rfl ?_) | (refine wpList_unguard (by kernel_rfl) ?_; refine wpList_build_none rfl rfl ?_))
          refine (open_nil _).mono ?_
          rintro e w24 ⟨rfl, hw24⟩
          have HB24 := Lib.hid (show Below w.heap.size w w24 by rw [hw24]; exact HB23.out)
          clear hw24 HB23
          go_wp2_with fail
          go_ret
          exact ⟨by first | rfl | simp, HB24.out⟩
        · have hl2 : ¬ (i : Int) < len4 := by omega
          go_wp2_with fail
          refine (tick_nil _ _).mono ?_
          rintro e w20 ⟨rfl, hB20⟩
          have HB20 := Lib.hid (HB9.out.trans (hB20.mono HB9.out.size))
          clear hB20 HB9
          go_wp2_with (first | (refine wpList_build_none rfl rfl ?_) | (refine wpList_unguard (by kernel_rfl) ?_; refine wpList_build_none rfl rfl ?_))
          refine (start_nil _ _).mono ?_
          rintro e w21 ⟨rfl, hB21⟩
          have HB21 := Lib.hid (HB20.out.trans (hB21.mono HB20.out.size))
          clear hB21 HB20
          go_wp2_with (first | (refine wpList_build_none rfl rfl ?_) | (refine wpList_unguard (by kernel_rfl) ?_; refine wpList_build_none rfl rfl ?_))
          refine (done_nil _ _).mono ?_
          rintro e w22 ⟨rfl, hB22⟩
          have HB22 := Lib.hid (HB21.out.trans (hB22.mono HB21.out.size))
          clear hB22 HB21
          go_wp2_with (first | (refine wpList_build_none rfl rfl ?_) | (refine wpList_unguard (by kernel_rfl) ?_; refine wpList_build_none rfl rfl ?_))
          refine (has_nil _ _).mono ?_
          rintro e w23 ⟨rfl, hB23⟩
          have HB23 := Lib.hid (HB22.out.trans (hB23.mono HB22.out.size))
          clear hB23 HB22
          go_wp2_with (first | (refine wpList_build_none rfl rfl ?_) | (refine wpList_unguard (by kernel_rfl) ?_; refine wpList_build_none rfl rfl ?_))
          refine (open_nil _).mono ?_
          rintro e w24 ⟨rfl, hw24⟩
          have HB24 := Lib.hid (show Below w.heap.size w w24 by rw [hw24]; exact HB23.out)
          clear hw24 HB23
          go_wp2_with fail
          go_ret
          exact ⟨by first | rfl | simp, HB24.out⟩
  · go_enter Try.func6, Try.ntmps6
    go_wp2_with fail
    refine (awake_any _).mono ?_
    rintro e w1 ⟨rfl, B1⟩
    have HB1 := Lib.hid B1
    clear B1
    go_wp2_with fail
    refine (new_not a0 a1 a2 w1 hN).mono ?_
    rintro e w2 ⟨rfl, hB2⟩
    have HB2 := Lib.hid (HB1.out.trans (hB2.mono HB1.out.size))
    have R2 := Lib.hid (rnew_not a0 a1 a2 w2 hN)
    clear hB2 HB1 hN
    go_wp2_with fail
    refine R2.out.mono ?_
    rintro e w3 ⟨rfl, hB3⟩
    have HB3 := Lib.hid (HB2.out.trans (hB3.mono HB2.out.size))
    clear hB3 HB2 R2
    unfold tv
    go_wp2_with fail
    refine (new_any a3 _).mono ?_
    rintro e w5 ⟨rfl, hw5⟩
    have hB5 : Below w.heap.size w w5 := by
      rw [hw5]
      refine Below.alloc (Below.alloc HB3.out HB3.out.size _) ?_ _
      have := HB3.out.size
      simp; omega
    obtain ⟨d, hd⟩ : ∃ d, d = (w3.alloc (.cells (tcells 0 0 0 (.slice none 0 0)) 48)).heap.size := ⟨_, rfl⟩
    have HB9 := Lib.hid hB5
    clear hw5 hB5 hd HB3
    go_wp2_with fail
    go_loopw [18] (fun iv wr => iv = .int .i64 0 ∧ Below w.heap.size w wr)
      (fun _ _ => 0)
    case atStart => exact ⟨rfl, HB9.out⟩
    case round =>
      clear HB9
      obtain ⟨rfl, hB⟩ := hrel
      have HB9 := Lib.hid hB
      clear hB
      rcases Nat.eq_zero_or_pos len4 with hl0 | hl0
      · subst hl0
        go_wp2_with fail
        refine (tick_nil _ _).mono ?_
        rintro e w20 ⟨rfl, hB20⟩
        have HB20 := Lib.hid (HB9.out.trans (hB20.mono HB9.out.size))
        clear hB20 HB9
        go_wp2_with (first | (refine wpList_build_none rfl rfl ?_) | (refine wpList_unguard (by kernel_rfl) ?_; refine wpList_build_none rfl rfl ?_))
        refine (start_nil _ _).mono ?_
        rintro e w21 ⟨rfl, hB21⟩
        have HB21 := Lib.hid (HB20.out.trans (hB21.mono HB20.out.size))
        clear hB21 HB20
        go_wp2_with (first | (refine wpList_build_none rfl rfl ?_) | (refine wpList_unguard (by kernel_rfl) ?_; refine wpList_build_none rfl rfl ?_))
        refine (done_nil _ _).mono ?_
        rintro e w22 ⟨rfl, hB22⟩
        have HB22 := Lib.hid (HB21.out.trans (hB22.mono HB21.out.size))
        clear hB22 HB21
        go_wp2_with (first | (refine wpList_build_none rfl rfl ?_) | (refine wpList_unguard (by kernel_rfl) ?_; refine wpList_build_none rfl rfl ?_))
        refine (has_nil _ _).mono ?_
        rintro e w23 ⟨rfl, hB23⟩
        have HB23 := Lib.hid (HB22.out.trans (hB23.mono HB22.out.size))
        clear hB23 HB22
        go_wp2_with (first | (refine wpList_build_none rfl rfl ?_) | (refine wpList_unguard (by kernel_rfl) ?_; refine wpList_build_none rfl rfl ?_))
        refine (open_nil _).mono ?_
        rintro e w24 ⟨rfl, hw24⟩
        have HB24 := Lib.hid (show Below w.heap.size w w24 by rw [hw24]; exact HB23.out)
        clear hw24 HB23
        go_wp2_with fail
        go_ret
        exact ⟨by first | rfl | simp, HB24.out⟩
      · have hl1 : (0 : Int) < len4 := by omega
        go_wp2_with fail
        refine (tick_nil _ _).mono ?_
        rintro e w20 ⟨rfl, hB20⟩
        have HB20 := Lib.hid (HB9.out.trans (hB20.mono HB9.out.size))
        clear hB20 HB9
        go_wp2_with (first | (refine wpList_build_none rfl rfl ?_) | (refine wpList_unguard (by kernel_rfl) ?_; refine wpList_build_none rfl rfl ?_))
        refine (start_nil _ _).mono ?_
        rintro e w21 ⟨rfl, hB21⟩
        have HB21 := Lib.hid (HB20.out.trans (hB21.mono HB20.out.size))
        clear hB21 HB20
        go_wp2_with (first | (refine wpList_build_none rfl rfl ?_) | (refine wpList_unguard (by kernel_rfl) ?_; refine wpList_build_none rfl rfl ?_))
        refine (done_nil _ _).mono ?_
        rintro e w22 ⟨rfl, hB22⟩
        have HB22 := Lib.hid (HB21.out.trans (hB22.mono HB21.out.size))
        clear hB22 HB21
        go_wp2_with (first | (refine wpList_build_none rfl rfl ?_) | (refine wpList_unguard (by kernel_rfl) ?_; refine wpList_build_none rfl rfl ?_))
        refine (has_nil _ _).mono ?_
        rintro e w23 ⟨rfl, hB23⟩
        have HB23 := Lib.hid (HB22.out.trans (hB23.mono HB22.out.size))
        clear hB23 HB22
        go_wp2_with (first | (refine wpList_build_none rfl rfl ?_) | (refine wpList_unguard (by kernel_rfl) ?_; refine wpList_build_none rfl rfl ?_))
        refine (open_nil _).mono ?_
        rintro e w24 ⟨rfl, hw24⟩
        have HB24 := Lib.hid (show Below w.heap.size w w24 by rw [hw24]; exact HB23.out)
        clear hw24 HB23
        go_wp2_with fail
        go_ret
        exact ⟨by first | rfl | simp, HB24.out⟩

set_option maxRecDepth 100000 in
theorem lifted (os : Os) (started : os.Started) (H : Type) (enc : TypeId × Value → H) :
    ReturnsInHanded {} Try.checked os 6 .any (Rows.fetchPlaysSpec.pre6 enc Try.prog Try.f6 Rows.fetchPlaysRow.domain false) (Rows.fetchPlaysSpec.post enc Try.prog Try.f6 false true false false) := by
  refine returnsInHanded_of_change (C := Try.checked) own started (by kernel_rfl) Try.func6
    (ChangeSpec.witness6 (enc := enc) (C := Try.checked) false ⟨#[], #[.int .i64 0, .int .i64 0, .int .i64 0, .int .u64 0, .slice none 0 0], []⟩ 8 (by kernel_rfl) (by kernel_rfl) (by kernel_rfl) (by kernel_rfl)) ?_
  intro W base args ds gs before hval0 hW hcnd _
  have hval : ∀ (j : Nat) t v, Try.f6.params[j]? = some t → args[j]? = some v → Value.okWide Try.prog W .any base t v := hval0
  have hW' := hW
  obtain ⟨p, q, hA0, hV, rfl, hfz, hnd⟩ := hW
  have hA : DataW.TrodAll enc Try.prog W 0 (fun _ => true) true Try.f6.params.toList args.toList ds p := hA0
  rw [Try.params6] at hA hval
  obtain ⟨v0, vs0, d0, ds0, p0, q0, hargs, rfl, rfl, h0, r0⟩ := trodAll_cons hA
  obtain ⟨v1, vs1, d1, ds1, p1, q1, rfl, rfl, rfl, h1, r1⟩ := trodAll_cons r0
  obtain ⟨v2, vs2, d2, ds2, p2, q2, rfl, rfl, rfl, h2, r2⟩ := trodAll_cons r1
  obtain ⟨v3, vs3, d3, ds3, p3, q3, rfl, rfl, rfl, h3, r3⟩ := trodAll_cons r2
  obtain ⟨v4, vs4, d4, ds4, p4, q4, rfl, rfl, rfl, h4, r4⟩ := trodAll_cons r3
  obtain ⟨rfl, rfl, rfl⟩ := trodAll_nil r4
  obtain rfl : args = #[v0, v1, v2, v3, v4] := by cases args; simp_all
  obtain ⟨rfl, rfl⟩ := trodVars_none hV
  obtain ⟨a0, rfl, rfl, rfl, w0⟩ := open_int Try.underlying3 (hval 0 3 v0 rfl rfl) h0
  obtain ⟨a1, rfl, rfl, rfl, w1⟩ := open_int Try.underlying3 (hval 1 3 v1 rfl rfl) h1
  obtain ⟨a2, rfl, rfl, rfl, w2⟩ := open_int Try.underlying3 (hval 2 3 v2 rfl rfl) h2
  obtain ⟨a3, rfl, rfl, rfl, w3⟩ := open_int Try.underlying22 (hval 3 22 v3 rfl rfl) h3
  obtain ⟨a4, len4, cap4, rfl⟩ := okWide_slice Try.underlying45 (hval 4 45 v4 rfl rfl)
  have k4 := h4
  have lt4 : ∀ x ∈ p4, x.block < W.heap.size := by obtain ⟨m, hm⟩ := k4; exact DataW.trod_lt m _ _ _ hm
  have w4 : IsActs W a4 len4 cap4 := by
    obtain ⟨fuel, hf⟩ := h4
    exact open_acts hf
  clear hA0 hval0
  refine (walk a0 a1 a2 a3 a4 len4 cap4 W w0 w1 w2 w3 w4).mono fun e W' ⟨he, bel⟩ => ?_
  subst he
  exact ⟨_, rfl, _, _, _, [], _, [], hW', trodAll_mk1 (shut_bool Try.underlying4 _), (trodAll_cons_mk (shut_int Try.underlying3 w0) (trodAll_cons_mk (shut_int Try.underlying3 w1) (trodAll_cons_mk (shut_int Try.underlying3 w2) (trodAll_cons_mk (shut_int Try.underlying22 w3) (trodAll_cons_mk (Below.trod laidOut (by kernel_rfl) (of_decide_eq_true (by kernel_rfl)) k4 bel lt4) trodAll_mk0))))), rfl, bel.frame _, fun h => by cases h⟩

theorem over : Rows.fetchPlaysRow.holds Try.pinned (OpenSpec.ofChange Rows.fetchPlaysSpec) :=
  OpenClaim.holds_of_wide 6 Try.f6 rfl rfl rfl rfl rfl rfl rfl ⟨rfl, rfl, rfl, rfl, rfl⟩ rfl rfl rfl rfl rfl (by kernel_rfl) Try.func6 (by kernel_rfl)
    (of_decide_eq_true (by kernel_rfl)) (by unfold Func.isWrapper; first | (rw [if_pos (by decide +kernel)]; kernel_rfl) | (rw [if_neg (by decide +kernel)]; exact ⟨rfl, rfl⟩))
    (fun os started H enc _ => lifted os started H enc)

theorem proved : Rows.FetchPlaysSaid := over
#print axioms proved
end Go.Proofs.Ythjgmnafbikihaa.fetchPlays
