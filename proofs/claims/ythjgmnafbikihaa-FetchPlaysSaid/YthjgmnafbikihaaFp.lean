/-
  Fetch: Tick.
-/
import Derived.Test.YthjgmnafbikihaaFo
set_option linter.unusedSimpArgs false
set_option linter.unusedVariables false
namespace Go.Proofs.Ythjgmnafbikihaa
open Go.RowKit Go.Maps Go.Sort

theorem Tab.of_drew {w : World} {b : Nat} {E : En} (h : Tab w b E) : Tab w.drew b E := h.block rfl
theorem RI.drew {w0 w : World} {g b d m : Nat} {base most budget : Int} {kv av lv : Value} {ks : List WS} {M : En} {s : Int} {asks lost : List WS} (h : RI w0 w g b d m base most budget kv av lv ks M s asks lost) : RI w0 w.drew g b d m base most budget kv av lv ks M s asks lost :=
  h.below (below_dr (Below.refl _ _))
theorem RI.fresh {w0 w : World} {g b d m : Nat} {base most budget : Int} {kv av lv : Value} {ks : List WS} {M : En} {s : Int} {asks lost : List WS} (h : RI w0 w g b d m base most budget kv av lv ks M s asks lost) :
    ∀ k, w.heap.size ≤ k → w0.heap.size ≤ k ∧ kv.ownBlock ≠ some k ∧ av.ownBlock ≠ some k ∧ lv.ownBlock ≠ some k := fun k hk =>
  ⟨Nat.le_trans h.frame.size hk, fun e => by have := (h.keys.lt k e).2; omega, fun e => by have := (h.asks_.lt k e).2; omega, fun e => by have := (h.lost_.lt k e).2; omega⟩
theorem wrapI {x : Int} (h0 : -9223372036854775808 ≤ x) (h1 : x ≤ 9223372036854775807) : IntKind.i64.wrap x = x := by
  rw [IntKind.wrap_i64]
  omega
theorem min_if (a b : Int) : min a b = if b < a then b else a := by
  rw [Int.min_def]
  split <;> split <;> omega
theorem grown_two (w : World) (k : Nat) (u v : Value) : w.grownBy ((w.setCell ⟨k, 0, none⟩ u).setCell ⟨k, 1, none⟩ v) (some k) :=
  ⟨rfl, rfl, rfl, by simp, fun j _ hj => (Below.heap_setCell _ _ _ j (fun e => hj (by rw [e]))).trans (Below.heap_setCell w _ _ j (fun e => hj (by rw [e])))⟩
theorem getD_keys {E R : En} {i : Nat} {x : WS} {st : St} (h : E.drop i = (x, st) :: R) : (keysE E).getD i default = x := by
  have hi : i < E.length := by
    rcases Nat.lt_or_ge i E.length with h1 | h1
    · exact h1
    · rw [List.drop_eq_nil_of_le h1] at h; cases h
  have h1 := List.drop_eq_getElem_cons hi
  rw [h] at h1
  injection h1 with h1 h2
  simp [keysE, hi, ← h1]
theorem ones_enc (x : WS) : ∀ v ∈ (encS x).toArray.toList, v.oneCell' = true := by
  intro v hv
  exact wcells_ones x.1 v (by simpa [encS] using hv)

set_option maxRecDepth 100000 in
set_option maxHeartbeats 4000000 in
theorem tick_any (g b d : Nat) (base most budget : Int) (E : En) (s : Int) (w : World) (hN : newOk base most budget) (hE : E.length ≤ 1000) (hOk : OkE budget E) (h : Tb w g b base most budget E) (hd : Blk w d 67 #[.int .u64 s]) :
    Calls Try.prog 12 #[.pointer (some ⟨g, 0, none⟩), .pointer (some ⟨d, 0, none⟩)] w fun e w' => ∃ av lv m, e = .returned (.tuple #[av, lv]) ∧
      ∃ kv, RI w w' g b d m base most budget kv av lv (keysE E) (tick base most budget E s).P (tick base most budget E s).s (tick base most budget E s).asks (tick base most budget E s).lost ∧ OkE budget (tick base most budget E s).P := by
  have hkl : (keysE E).length = E.length := by simp [keysE]
  have hgb := h.gb
  have hbd : b ≠ d := by
    rintro rfl
    obtain ⟨D, ⟨es, c, hb, _⟩, _⟩ := h.tab
    have h1 : w.heap[b]? = _ := hd
    rw [hb] at h1
    injection h1 with h1
    cases h1
  have hgd : g ≠ d := h.blk.ne_ hd (by decide)
  have HOP := Lib.hid (open_any g b base most budget E w h (by omega))
  have HT := Lib.hid h
  have HD := Lib.hid hd
  have HNO := Lib.hid hN
  obtain ⟨n1, n2, n3, n4, n5, n6⟩ := hN
  clear h hd
  go_enter Try.func12, Try.ntmps12
  go_wp2_with fail
  refine HOP.out.mono ?_
  rintro e w1 ⟨kv, rfl, hk, hB1⟩
  obtain ⟨A, c, rfl⟩ : ∃ A c, kv = .slice A E.length c := by
    rcases hk.2 with ⟨rfl, h0⟩ | ⟨kb, cap, cur, rfl, _⟩
    · exact ⟨none, 0, by rw [h0]⟩
    · exact ⟨_, _, rfl⟩
  have R0 : RI w w1 g b d w1.heap.size base most budget (.slice A E.length c) (.slice none 0 0) (.slice none 0 0) (keysE E) E s [] [] :=
    ⟨HT.out.blk.below hB1 HT.out.blk.lt, HT.out.tab.block (hB1.block b HT.out.tab.lt), HT.out.srt, HD.out.below hB1 HD.out.lt, by rw [hkl]; exact hk, World.ownsRow_nil _ _ _ _, World.ownsRow_nil _ _ _ _,
     fun k e => by simp [Value.ownBlock] at e, fun k e => (hk.lt k e).2, ⟨hB1.os, hB1.tape, hB1.output, hB1.size, fun k hk _ _ => hB1.block k hk⟩, hB1.size, Nat.le_refl _, HT.out.blk.lt, HT.out.tab.lt, HD.out.lt, hgd, hgb, hbd⟩
  have HR0 := Lib.hid R0
  clear R0 hk
  go_wp2_with fail
  go_loopw [6, 7, 9, 10, 14, 55, 59] (fun av lv _ _ cv _ _ wr => ∃ i : Nat, i ≤ E.length ∧ cv = .int .i64 i ∧ RI w wr g b d w1.heap.size base most budget (.slice A E.length c) av lv (keysE E) ((tk base most budget E s i).P ++ E.drop i) (tk base most budget E s i).s (tk base most budget E s i).asks (tk base most budget E s i).lost ∧ OkE budget ((tk base most budget E s i).P ++ E.drop i))
    (fun _ _ _ _ cv _ _ _ => E.length - (intOf cv).toNat)
  case atStart => exact ⟨0, Nat.zero_le _, rfl, HR0.out, hOk⟩
  case round =>
    clear HR0 HOP HT HD hB1
    obtain ⟨i, hin, rfl, R, hok⟩ := hrel
    by_cases hlt : i < E.length
    · obtain ⟨⟨x, tr, lf⟩, Rr, hdrop⟩ : ∃ e R, E.drop i = e :: R := ⟨_, _, List.drop_eq_getElem_cons hlt⟩
      obtain ⟨hst, hdr⟩ := tk_succ (base := base) (most := most) (budget := budget) (s := s) hdrop
      have hxk := getD_keys hdrop
      obtain ⟨hla, hll, hlp⟩ := tk_len base most budget E s i
      have hRl : Rr.length + 1 + i = E.length := by have := congrArg List.length hdrop; simp at this; omega
      rw [hdrop] at R hok
      have HST := Lib.hid hst
      have HDR := Lib.hid hdr
      clear hst hdr hdrop
      generalize tk base most budget E s i = t at R hok HST hla hll hlp
      obtain ⟨P, S, asks, lost⟩ := t
      simp only at R hok hla hll hlp
      have hoke := ok_step HNO.out (t := ⟨P, S, asks, lost⟩) hok
      have HOK := Lib.hid hoke
      obtain ⟨o1, o2, o3, o4⟩ := hok (x, (tr, lf)) (by simp)
      simp only at o1 o2 o3 o4
      clear hok hoke
      obtain ⟨kb, cap, hA, hr⟩ := R.key (i := i) (by rw [hkl]; exact hlt)
      rw [hkl] at hA
      injection hA with hA1 _ hA2
      subst hA1 hA2
      rw [hxk] at hr
      obtain ⟨il, hil⟩ : ∃ il, encS x = il := ⟨_, rfl⟩
      have hone := ones_enc x
      have hwv : wv x = .agg il.toArray := by rw [← hil]; rfl
      have hi35 : (Try.prog.info? 35).map (·.size) = some il.toArray.size := by rw [← hil]; exact size35 x
      have hs66 : il.toArray.size = 66 := by rw [← hil]; have := wcells_length x.2; simpa [encS] using this
      rw [hil] at hr hone
      have HEN := Lib.hid hil
      have HWV := Lib.hid hwv
      have HI := Lib.hid hi35
      have HONE := Lib.hid hone
      have HRR := Lib.hid hr
      have HR := Lib.hid R
      obtain ⟨sm1, sm2, sm3, sm4⟩ := srt_mid (s' := (tr, lf - 1)) R.srt
      clear hil hwv hi35 hone hxk hr R sm3
      obtain ⟨z35, hzs, hzv⟩ := zero_agg zinfo35 (by decide)
      go_wp2_with (first
        | (refine wpList_load_range 35 (.tmp 16) kb (i * 66) il.toArray _ rfl rfl (by simp [Act.eval]) Try.underlying35 rfl HI.out HRR.out ?_)
        | (refine wpList_store_blk 35 (.tmp 9) (.tmp 17) wr.heap.size _ il.toArray rfl rfl rfl rfl HI.out (Blk.new _ _ _) (by rw [hs66, hzs]) HONE.out ?_))
      intro v0 kb0 kg0 _
      have hBv : Below wr.heap.size wr v0 := (((Below.refl _ wr).alloc (Nat.le_refl _) _).grown kg0 (by simp) (fun j e => by injection e with e; omega))
      have hbl := kb0.lt
      have Rv := HR.out.below hBv
      have hbk := kb0
      have hsv := hBv.size
      obtain ⟨eb, heb⟩ : ∃ eb, eb = wr.heap.size := ⟨_, rfl⟩
      rw [← heb] at hbk hbl
      have SG : Hid (∀ w', Below v0.heap.size v0 w' → w'.cell? ⟨g, 3, none⟩ = some (.map (some b)) ∧ w'.rangeAt eb 0 il ∧ (Instr.lookup 63 (.map (some b)) (.agg il.toArray) false).run Try.prog w' = .ok (.agg #[.int .i64 tr, .int .i64 lf]) w') := by
        intro w' hw'
        have h1 := Rv.below hw'
        refine ⟨(tb_cells h1.blk).2.2.2, ?_, ?_⟩
        · have := (hbk.below hw' hbk.lt).range; simpa using this
        · have := h1.tab.look (x := x) (t := (tr, lf)) (by rw [lk_mid sm1, if_pos rfl])
          rw [HWV.out] at this
          exact this
      have hB0 : Below v0.heap.size v0 v0 := Below.refl _ _
      have hgl : g < v0.heap.size := Rv.blk.lt
      have hu35 := Try.underlying35
      have HRv := Lib.hid Rv
      have HBK := Lib.hid hbk
      have HBL := Lib.hid hbl
      have HSV := Lib.hid hsv
      have hi35l : (Try.prog.info? 35).map (·.size) = some il.length := by simpa using HI.out
      have hfr := HR.out.fresh
      rw [← heb] at hfr ⊢
      have HFR := Lib.hid hfr
      have HEB := Lib.hid heb
      have HKL := Lib.hid hkl
      have HGE := Lib.hid (And.intro hgb (And.intro hbd hgd))
      clear hkl hgb hbd hgd
      clear hfr heb hBv hbl Rv hbk hsv kb0 kg0 HR hzv
      go_wp2_with fail
      refine wp_region_held_drew (S := (fun w' => Below v0.heap.size v0 w')) (by kernel_rfl) (below_dr hB0) (fun hHeld => ?_)
      refine wpAnyH_take (i := 0) (v := .pointer (some ⟨g, 0, none⟩)) rfl (by kernel_rfl) (by kernel_rfl) (by kernel_rfl) (fun _ _ _ h => h) (Or.inl ⟨by rfl, fun w' hw' => by go_simp⟩) hHeld ?_
      try simp only [Act.put, List.setIfInBounds_toArray, List.set_cons_zero, List.set_cons_succ]
      refine wpAnyH_take (i := 1) (v := .pointer (some ⟨g, 0, none⟩)) rfl (by kernel_rfl) (by kernel_rfl) (by kernel_rfl) (fun _ _ _ h => h) (Or.inl ⟨by rfl, fun w' hw' => by go_simp⟩) hHeld ?_
      try simp only [Act.put, List.setIfInBounds_toArray, List.set_cons_zero, List.set_cons_succ]
      refine wpAnyH_take (i := 2) (v := .pointer (some ⟨g, 3, none⟩)) rfl (by kernel_rfl) (by kernel_rfl) (by kernel_rfl) (fun _ _ _ h => h) (Or.inl ⟨by rfl, fun w' hw' => by go_simp⟩) hHeld ?_
      try simp only [Act.put, List.setIfInBounds_toArray, List.set_cons_zero, List.set_cons_succ]
      refine wpAnyH_take (i := 3) (v := .map (some b)) rfl (by kernel_rfl) (by kernel_rfl) (by kernel_rfl) (fun _ _ _ h => h) (Or.inl ⟨by rfl, fun w' hw' => by obtain ⟨f1, f2, f3⟩ := SG.out w' hw'; go_simp⟩) hHeld ?_
      try simp only [Act.put, List.setIfInBounds_toArray, List.set_cons_zero, List.set_cons_succ]
      refine wpAnyH_take (i := 4) (v := .agg (List.toArray il)) rfl (by kernel_rfl) (by kernel_rfl) (by kernel_rfl) (fun _ _ _ h => h) (yieldsIf_load_mid (by rfl) 35 (.tmp 9) rfl eb 0 rfl il _ (fun w' hw' => (SG.out w' hw').2.1) hu35 rfl hi35l) hHeld ?_
      try simp only [Act.put, List.setIfInBounds_toArray, List.set_cons_zero, List.set_cons_succ]
      refine wpAnyH_take (i := 5) (v := .agg #[.int .i64 tr, .int .i64 lf]) rfl (by kernel_rfl) (by kernel_rfl) (by kernel_rfl) (fun _ _ _ h => h) (Or.inl ⟨by rfl, fun w' hw' => by obtain ⟨f1, f2, f3⟩ := SG.out w' hw'; go_simp⟩) hHeld ?_
      try simp only [Act.put, List.setIfInBounds_toArray, List.set_cons_zero, List.set_cons_succ]
      refine wpAnyH_ready (rs := [6]) (by kernel_rfl) (by simp) ?_
      refine AllReadyH.cons rfl (fun K hK => ?_) AllReadyH.nil
      go_simp
      refine hK.out _ _ (below_dr (hB0.alloc (Nat.le_refl _) _)) (fun hHeld => ?_)
      clear hK K
      try simp only [Act.put, List.setIfInBounds_toArray, List.set_cons_zero, List.set_cons_succ]
      refine wpAnyH_ready (rs := [7]) (by kernel_rfl) (by simp) ?_
      refine AllReadyH.cons rfl (fun K hK => ?_) AllReadyH.nil
      go_simp
      refine hK.out _ _ (below_dr (hB0.alloc (Nat.le_refl _) _)) (fun hHeld => ?_)
      clear hK K
      try simp only [Act.put, List.setIfInBounds_toArray, List.set_cons_zero, List.set_cons_succ]
      refine wpAnyH_done (by kernel_rfl) ?_ _
      have hBe := below_dr (hB0.alloc (Nat.le_refl _) (.cells #[.int .i64 tr, .int .i64 lf] 69))
      have R5 := HRv.out.below hBe
      have e5 := HBK.out.below hBe HBK.out.lt
      have s5 : Blk ((v0.alloc (.cells #[.int .i64 tr, .int .i64 lf] 69)).drew) v0.heap.size 69 #[.int .i64 tr, .int .i64 lf] := (Blk.new v0 69 _).drew
      obtain ⟨sb, hsb⟩ : ∃ sb, sb = v0.heap.size := ⟨_, rfl⟩
      have hes : eb < sb := by rw [hsb]; exact HBK.out.lt
      have hls := s5.lt
      rw [← hsb] at s5 hls ⊢
      clear hBe SG HRv HBK HBL HSV HEB hu35 hgl hB0 hsb hHeld
      generalize (v0.alloc (.cells #[.int .i64 tr, .int .i64 lf] 69)).drew = W5 at R5 e5 s5 hls ⊢
      have c0 : W5.cell? ⟨sb, 0, none⟩ = some (.int .i64 tr) := s5.cell 0
      have c1 : W5.cell? ⟨sb, 1, none⟩ = some (.int .i64 lf) := s5.cell 1
      have f1 : W5.frozen? ⟨sb, 1, none⟩ = false := s5.frozen 1
      have hgW : W5.grownBy (W5.setCell ⟨sb, 1, none⟩ (.int .i64 (lf - 1))) (some sb) := ⟨rfl, rfl, rfl, by simp, fun k _ hk => Below.heap_setCell W5 _ _ k (fun e => hk (by rw [e]))⟩
      have s6 : Blk (W5.setCell ⟨sb, 1, none⟩ (.int .i64 (lf - 1))) sb 69 #[.int .i64 tr, .int .i64 (lf - 1)] := s5.set_ 1 _
      have e6 := e5.grown hgW (fun e => by injection e with e; omega)
      have R6 := R5.kept hgW (fun k e => HFR.out k (by injection e with e; omega))
      have HS6 := Lib.hid s6
      have HE6 := Lib.hid e6
      have HR6 := Lib.hid R6
      clear R5 e5 s5 s6 e6 R6 hgW
      by_cases hc1 : 0 < lf - 1
      · go_wp2_with fail
        have HTS : Hid (tk base most budget E s (i + 1) = ⟨P ++ [(x, (tr, lf - 1))], S, asks, lost⟩) := by show _ = _; rw [HST.out]; unfold tstep; rw [if_pos hc1]
        have T1 := Lib.hid HS6.out.drew
        have T2 := Lib.hid HE6.out.drew
        have T3 := Lib.hid HR6.out.drew
        clear HS6 HE6 HR6
        refine wp_region_still_tail 6 (by kernel_rfl) (by kernel_rfl) ?_
        simp only [List.take_succ_cons, List.take_zero, List.drop_succ_cons, List.drop_zero]
        change wpStill _ _ (World.drew _) (fun a' => wpList _ _ _ _ a' (World.drew _)) _ _
        generalize (W5.setCell ⟨sb, 1, none⟩ (.int .i64 (lf - 1))).drew = W7 at T1 T2 T3 ⊢
        have d3 := (tb_cells T3.out.blk).2.2.2
        have q0 : W7.cell? ⟨sb, 0, none⟩ = some (.int .i64 (tr)) := T1.out.cell 0
        have q1 : W7.cell? ⟨sb, 1, none⟩ = some (.int .i64 (lf - 1)) := T1.out.cell 1
        have hl2 := run_loadAt_mid W7 eb 0 35 il _ (by have := T2.out.range; simpa using this) Try.underlying35 rfl (by simpa using HI.out)
        iterate 4 (still_step)
        refine wpStill_step (fun K hK => ?_)
        rw [if_pos (by rfl)]
        refine still_load 35 _ _ (.agg il.toArray) rfl rfl hl2 ?_
        go_simp
        refine hK _ ?_
        clear hK K hl2
        still_step
        refine wpStill_nil ?_
        refine wpList_put x (tr, lf - 1) (P ++ (x, (tr, lf - 1)) :: Rr) rfl _ _ _ rfl rfl HWV.out.symm rfl T3.out.tab (by rw [lk_mid sm1, if_pos rfl]) (fun y hy => by rw [lk_mid sm1, lk_mid sm1, if_neg hy, if_neg hy]) (by rw [lk_mid sm1, if_pos rfl]; simp) (by unfold maxLen; simp; omega) ?_
        intro w8 ht8 hg8
        have HR8 := Lib.hid (T3.out.map ht8 (srt_mid (s' := (tr, lf - 1)) T3.out.srt).2.2.1 hg8)
        clear ht8 hg8 d3 q0 q1 T1 T2 T3
        go_wp2_with fail
        go_roundw
        case rel =>
          refine ⟨i + 1, by omega, by go_num, ?_, by rw [HDR.out, HST.out]; exact HOK.out⟩
          rw [HTS.out, HDR.out]
          simp only [List.append_assoc, List.cons_append, List.nil_append]
          exact HR8.out
        case measure => simp [intOf]; omega
      · go_wp2_with fail
        have x0 : (W5.setCell ⟨sb, 1, none⟩ (.int .i64 (lf - 1))).cell? ⟨sb, 0, none⟩ = some (.int .i64 tr) := HS6.out.cell 0
        have x2 : (W5.setCell ⟨sb, 1, none⟩ (.int .i64 (lf - 1))).cell? ⟨g, 2, none⟩ = some (.int .i64 budget) := (tb_cells HR6.out.blk).2.2.1
        clear c0 c1 f1
        generalize W5.setCell ⟨sb, 1, none⟩ (.int .i64 (lf - 1)) = W6 at HS6 HE6 HR6 x0 x2 ⊢
        refine wp_region_quiet_lit (by kernel_rfl) (by kernel_rfl) ?_
        repeat (quiet_step (fail))
        refine wpQuiet_nil ?_
        intro _ hw'
        obtain ⟨nq, hw''⟩ := hw'
        subst hw''
        have HS7 := Lib.hid (HS6.out.drewN nq)
        have HE7 := Lib.hid (HE6.out.drewN nq)
        have HR7 := Lib.hid (HR6.out.below (below_dN (Below.refl _ W6) nq))
        clear HS6 HE6 HR6 x0 x2
        generalize W6.drewN nq = W7 at HS7 HE7 HR7 ⊢
        by_cases hc2 : tr = budget
        · have HTS : Hid (tk base most budget E s (i + 1) = ⟨P, S, asks, lost ++ [x]⟩) := by show _ = _; rw [HST.out]; unfold tstep; rw [if_neg (by simp only; omega), if_pos hc2]
          go_wp2_with fail
          have T1 := Lib.hid HS7.out.drew
          have T2 := Lib.hid HE7.out.drew
          have T3 := Lib.hid HR7.out.drew
          clear HS7 HE7 HR7
          refine wp_region_still_tail 5 (by kernel_rfl) (by kernel_rfl) ?_
          simp only [List.take_succ_cons, List.take_zero, List.drop_succ_cons, List.drop_zero]
          change wpStill _ _ (World.drew _) (fun a' => wpList _ _ _ _ a' (World.drew _)) _ _
          generalize W7.drew = W8 at T1 T2 T3 ⊢
          have d3 := (tb_cells T3.out.blk).2.2.2
          have hl2 := run_loadAt_mid W8 eb 0 35 il _ (by have := T2.out.range; simpa using this) Try.underlying35 rfl (by simpa using HI.out)
          iterate 4 (still_step)
          refine wpStill_step (fun K hK => ?_)
          rw [if_pos (by rfl)]
          refine still_load 35 _ _ (.agg il.toArray) rfl rfl hl2 ?_
          go_simp
          refine hK _ ?_
          clear hK K hl2
          refine wpStill_nil ?_
          refine wpList_drop x (P ++ Rr) rfl _ _ rfl rfl HWV.out.symm T3.out.tab (lk_out sm1 sm2) (fun y hy => by rw [lk_mid sm1, if_neg hy]) (by rw [lk_mid sm1, if_pos rfl]; simp; omega) ?_
          intro w8 ht8 hg8
          have HR8 := Lib.hid (T3.out.map ht8 sm4 hg8)
          have HE8 := Lib.hid (T2.out.grown hg8 (fun e => by have := (HFR.out eb (Nat.le_refl _)).1; have := T3.out.bl; injection e with e; omega))
          clear ht8 hg8 d3 T1 T2 T3
          obtain ⟨i0, z0, hi, hz0, hzc, hz1, hz2⟩ := parts35
          have hRA := HR8.out.below ((Below.refl w8.heap.size w8).alloc (Nat.le_refl _) (.cells il.toArray 35))
          have HRA := Lib.hid hRA
          have HEA := Lib.hid (HE8.out.alloc (.cells il.toArray 35))
          have rE : w8.rangeAt eb 0 il.toArray.toList := HE8.out.range
          have HRE := Lib.hid rE
          have rd : Reads (w8.alloc (.cells il.toArray 35)) (w8.heap.size + 1) 66 (some ⟨w8.heap.size, 0, none⟩) 1 il := ⟨by simpa using hs66, fun _ => ⟨_, rfl, by simp, fun j u hu => by
            have := (Blk.new w8 35 il.toArray).cell j
            rw [Addr.add_mid, Nat.zero_add, this]
            simpa using hu⟩⟩
          have HRD := Lib.hid rd
          have hm2 : w1.heap.size ≤ (w8.alloc (.cells il.toArray 35)).heap.size := hRA.m2
          clear hRA rE rd
          go_wp2_with (first
            | (refine wpList_load_range 35 (.tmp 9) eb 0 il.toArray _ rfl rfl rfl Try.underlying35 rfl HI.out HRE.out ?_)
            | (refine wpList_slice_one 37 35 (.tmp 73) il.toArray i0 z0 rfl rfl rfl Try.underlying37 hi hz0 (by rw [hz1, hs66]) (by rw [hzc, hs66]) (by rw [hs66]; decide) (by rw [hs66]; decide) ?_)
            | (at_builtin; refine wpList_append_any _ rfl (.tmp 72) (.tmp 74) 37 rfl w1.heap.size 35 i0 z0 66 80 Try.underlying37 hi hz0 hz1 hz2 hzc (by decide) u7 lost.length (wrow lost) rfl HRA.out.lost_ (w8.heap.size + 1) (some ⟨w8.heap.size, 0, none⟩) 1 1 il rfl HRD.out (by simpa using HONE.out) (by unfold maxLen; omega) (by omega) hm2 ?_))
          intro v9 w9 hown9 hg9 hob9
          clear hi hz0 hz1 hz2 hzc HRE HRD hm2 HR8 HE8
          have HR9 := Lib.hid (HRA.out.lose (x := x) (by rw [HEN.out]; exact hown9) hg9 (by simpa using hob9))
          clear hown9 hg9 hob9 HRA HEA
          go_wp2_with fail
          go_roundw
          case rel =>
            refine ⟨i + 1, by omega, by go_num, ?_, by rw [HDR.out, HST.out]; exact HOK.out⟩
            rw [HTS.out, HDR.out]
            exact HR9.out
          case measure => simp [intOf]; omega
        · have HTS : Hid (tk base most budget E s (i + 1) = ⟨P ++ [(x, (tr + 1, wait base most tr + belV S base))], belS S base, asks ++ [x], lost⟩) := by show _ = _; rw [HST.out]; unfold tstep; rw [if_neg (by simp only; omega), if_neg hc2]
          have HR8 := HR7
          have HE8 := HE7
          clear HR7 HE7
          obtain ⟨i0, z0, hi, hz0, hzc, hz1, hz2⟩ := parts35
          have hRA := HR8.out.below ((Below.refl W7.heap.size W7).alloc (Nat.le_refl _) (.cells il.toArray 35))
          have HRA := Lib.hid hRA
          have HEA := Lib.hid (HE8.out.alloc (.cells il.toArray 35))
          have rE : W7.rangeAt eb 0 il.toArray.toList := HE8.out.range
          have HRE := Lib.hid rE
          have rd : Reads (W7.alloc (.cells il.toArray 35)) (W7.heap.size + 1) 66 (some ⟨W7.heap.size, 0, none⟩) 1 il := ⟨by simpa using hs66, fun _ => ⟨_, rfl, by simp, fun j u hu => by
            have := (Blk.new W7 35 il.toArray).cell j
            rw [Addr.add_mid, Nat.zero_add, this]
            simpa using hu⟩⟩
          have HRD := Lib.hid rd
          have hm2 : w1.heap.size ≤ (W7.alloc (.cells il.toArray 35)).heap.size := hRA.m2
          clear hRA rE rd
          go_wp2_with (first
            | (refine wpList_load_range 35 (.tmp 9) eb 0 il.toArray _ rfl rfl rfl Try.underlying35 rfl HI.out HRE.out ?_)
            | (refine wpList_slice_one 37 35 (.tmp 29) il.toArray i0 z0 rfl rfl rfl Try.underlying37 hi hz0 (by rw [hz1, hs66]) (by rw [hzc, hs66]) (by rw [hs66]; decide) (by rw [hs66]; decide) ?_)
            | (at_builtin; refine wpList_append_any _ rfl (.tmp 28) (.tmp 30) 37 rfl w1.heap.size 35 i0 z0 66 80 Try.underlying37 hi hz0 hz1 hz2 hzc (by decide) u6 asks.length (wrow asks) rfl HRA.out.asks_ (W7.heap.size + 1) (some ⟨W7.heap.size, 0, none⟩) 1 1 il rfl HRD.out (by simpa using HONE.out) (by unfold maxLen; omega) (by omega) hm2 ?_))
          intro v9 w9 hown9 hg9 hob9
          clear hi hz0 hz1 hz2 hzc HRE HRD hm2 HR8 HE8
          have HS9 := Lib.hid ((HS7.out.alloc (.cells il.toArray 35)).grown hg9 (fun e => (HFR.out sb (by omega)).2.2.1 e.symm))
          have HE9 := Lib.hid (HEA.out.grown hg9 (fun e => (HFR.out eb (Nat.le_refl _)).2.2.1 e.symm))
          have hls9 : sb < w9.heap.size := HS9.out.lt
          have hle9 : eb < w9.heap.size := HE9.out.lt
          have HF9 : Hid (v9.ownBlock ≠ some sb) := fun e => by
            rcases hob9 with q | q
            · exact (HFR.out sb (by omega)).2.2.1 (q ▸ e)
            · rw [e] at q; injection q with q; have := HS7.out.lt; omega
          have HR9 := Lib.hid (HRA.out.ask (x := x) (by rw [HEN.out]; exact hown9) hg9 (by simpa using hob9))
          clear hown9 hg9 hob9 HRA HEA HS7
          go_wp2_with fail
          have TS := Lib.hid HS9.out.drew
          have TE := Lib.hid HE9.out.drew
          have TR := Lib.hid HR9.out.drew
          clear HS9 HE9 HR9 hls9 hle9
          have hsh1 : (1 : Int) ≤ base * 2 ^ tr.toNat := by
            have hp : (0 : Int) < 2 ^ tr.toNat := Int.pow_pos (by decide)
            have : 0 < base * 2 ^ tr.toNat := Int.mul_pos (by omega) hp
            omega
          have hsh2 : base * 2 ^ tr.toNat ≤ 104857600 := by
            have hk : tr.toNat ≤ 20 := by omega
            have hp : (2 : Int) ^ tr.toNat ≤ 2 ^ 20 := by exact_mod_cast Nat.pow_le_pow_right (by decide) hk
            calc base * 2 ^ tr.toNat ≤ base * 2 ^ 20 := Int.mul_le_mul_of_nonneg_left hp (by omega)
              _ ≤ 100 * 2 ^ 20 := Int.mul_le_mul_of_nonneg_right n2 (by decide)
              _ = 104857600 := by decide
          have hww := wait_le (tr := tr) n1 n3
          have hwd : wait base most tr = if most < base * 2 ^ tr.toNat then most else base * 2 ^ tr.toNat := rfl
          generalize wait base most tr = wt at hww hwd HTS
          obtain ⟨sh, hsh⟩ : ∃ sh, base * 2 ^ tr.toNat = sh := ⟨_, rfl⟩
          rw [hsh] at hsh1 hsh2 hwd
          have HSH := Lib.hid hsh
          clear hsh
          have hbv := belV_lt (s := S) n1
          have HBEL := fun W h => Lib.hid (bel_any d S base W n1 (by omega) h)
          generalize belV S base = bv at hbv HTS HBEL
          generalize belS S base = S1 at HTS HBEL
          have HWD := Lib.hid hwd
          clear hwd
          refine wp_region_held_drew (S := (fun w' => w'.cell? ⟨g, 0, none⟩ = some (.int .i64 base) ∧ w'.cell? ⟨g, 1, none⟩ = some (.int .i64 most))) (by kernel_rfl) ⟨(tb_cells TR.out.blk).1, (tb_cells TR.out.blk).2.1⟩ (fun hHeld => ?_)
          have a0 : w9.drew.cell? ⟨sb, 0, none⟩ = some (.int .i64 tr) := TS.out.cell 0
          generalize w9.drew = WA at TS TE TR a0 hHeld ⊢
          refine wpAnyH_take (i := 0) (v := .pointer (some ⟨sb, 0, none⟩)) rfl (by kernel_rfl) (by kernel_rfl) (by kernel_rfl) (fun _ _ _ h => h) (Or.inl ⟨by rfl, fun w' hw' => by go_simp⟩) hHeld ?_
          try simp only [Act.put, List.setIfInBounds_toArray, List.set_cons_zero, List.set_cons_succ]
          refine wpAnyH_take (i := 3) (v := .pointer (some ⟨g, 0, none⟩)) rfl (by kernel_rfl) (by kernel_rfl) (by kernel_rfl) (fun _ _ _ h => h) (Or.inl ⟨by rfl, fun w' hw' => by go_simp⟩) hHeld ?_
          try simp only [Act.put, List.setIfInBounds_toArray, List.set_cons_zero, List.set_cons_succ]
          refine wpAnyH_take (i := 4) (v := .pointer (some ⟨g, 0, none⟩)) rfl (by kernel_rfl) (by kernel_rfl) (by kernel_rfl) (fun _ _ _ h => h) (Or.inl ⟨by rfl, fun w' hw' => by go_simp⟩) hHeld ?_
          try simp only [Act.put, List.setIfInBounds_toArray, List.set_cons_zero, List.set_cons_succ]
          refine wpAnyH_take (i := 5) (v := .pointer (some ⟨g, 0, none⟩)) rfl (by kernel_rfl) (by kernel_rfl) (by kernel_rfl) (fun _ _ _ h => h) (Or.inl ⟨by rfl, fun w' hw' => by go_simp⟩) hHeld ?_
          try simp only [Act.put, List.setIfInBounds_toArray, List.set_cons_zero, List.set_cons_succ]
          refine wpAnyH_take (i := 6) (v := .int .i64 base) rfl (by kernel_rfl) (by kernel_rfl) (by kernel_rfl) (fun _ _ _ h => h) (Or.inl ⟨by rfl, fun w' hw' => by obtain ⟨k0, k1⟩ := hw'; go_simp⟩) hHeld ?_
          try simp only [Act.put, List.setIfInBounds_toArray, List.set_cons_zero, List.set_cons_succ]
          refine wpAnyH_take (i := 7) (v := .pointer (some ⟨sb, 0, none⟩)) rfl (by kernel_rfl) (by kernel_rfl) (by kernel_rfl) (fun _ _ _ h => h) (Or.inl ⟨by rfl, fun w' hw' => by go_simp⟩) hHeld ?_
          try simp only [Act.put, List.setIfInBounds_toArray, List.set_cons_zero, List.set_cons_succ]
          refine wpAnyH_take (i := 10) (v := .pointer (some ⟨g, 0, none⟩)) rfl (by kernel_rfl) (by kernel_rfl) (by kernel_rfl) (fun _ _ _ h => h) (Or.inl ⟨by rfl, fun w' hw' => by go_simp⟩) hHeld ?_
          try simp only [Act.put, List.setIfInBounds_toArray, List.set_cons_zero, List.set_cons_succ]
          refine wpAnyH_take (i := 11) (v := .pointer (some ⟨g, 0, none⟩)) rfl (by kernel_rfl) (by kernel_rfl) (by kernel_rfl) (fun _ _ _ h => h) (Or.inl ⟨by rfl, fun w' hw' => by go_simp⟩) hHeld ?_
          try simp only [Act.put, List.setIfInBounds_toArray, List.set_cons_zero, List.set_cons_succ]
          refine wpAnyH_take (i := 12) (v := .pointer (some ⟨g, 1, none⟩)) rfl (by kernel_rfl) (by kernel_rfl) (by kernel_rfl) (fun _ _ _ h => h) (Or.inl ⟨by rfl, fun w' hw' => by go_simp⟩) hHeld ?_
          try simp only [Act.put, List.setIfInBounds_toArray, List.set_cons_zero, List.set_cons_succ]
          refine wpAnyH_take (i := 13) (v := .int .i64 most) rfl (by kernel_rfl) (by kernel_rfl) (by kernel_rfl) (fun _ _ _ h => h) (Or.inl ⟨by rfl, fun w' hw' => by obtain ⟨k0, k1⟩ := hw'; go_simp⟩) hHeld ?_
          try simp only [Act.put, List.setIfInBounds_toArray, List.set_cons_zero, List.set_cons_succ]
          refine wpAnyH_take (i := 15) (v := .pointer (some ⟨d, 0, none⟩)) rfl (by kernel_rfl) (by kernel_rfl) (by kernel_rfl) (fun _ _ _ h => h) (Or.inl ⟨by rfl, fun w' hw' => by go_simp⟩) hHeld ?_
          try simp only [Act.put, List.setIfInBounds_toArray, List.set_cons_zero, List.set_cons_succ]
          refine wpAnyH_take (i := 16) (v := .pointer (some ⟨g, 0, none⟩)) rfl (by kernel_rfl) (by kernel_rfl) (by kernel_rfl) (fun _ _ _ h => h) (Or.inl ⟨by rfl, fun w' hw' => by go_simp⟩) hHeld ?_
          try simp only [Act.put, List.setIfInBounds_toArray, List.set_cons_zero, List.set_cons_succ]
          refine wpAnyH_take (i := 17) (v := .pointer (some ⟨g, 0, none⟩)) rfl (by kernel_rfl) (by kernel_rfl) (by kernel_rfl) (fun _ _ _ h => h) (Or.inl ⟨by rfl, fun w' hw' => by go_simp⟩) hHeld ?_
          try simp only [Act.put, List.setIfInBounds_toArray, List.set_cons_zero, List.set_cons_succ]
          refine wpAnyH_take (i := 18) (v := .pointer (some ⟨g, 0, none⟩)) rfl (by kernel_rfl) (by kernel_rfl) (by kernel_rfl) (fun _ _ _ h => h) (Or.inl ⟨by rfl, fun w' hw' => by go_simp⟩) hHeld ?_
          try simp only [Act.put, List.setIfInBounds_toArray, List.set_cons_zero, List.set_cons_succ]
          refine wpAnyH_take (i := 19) (v := .int .i64 base) rfl (by kernel_rfl) (by kernel_rfl) (by kernel_rfl) (fun _ _ _ h => h) (Or.inl ⟨by rfl, fun w' hw' => by obtain ⟨k0, k1⟩ := hw'; go_simp⟩) hHeld ?_
          try simp only [Act.put, List.setIfInBounds_toArray, List.set_cons_zero, List.set_cons_succ]
          refine wpAnyH_ready (rs := [1, 8, 20]) (by kernel_rfl) (by simp) ?_
          refine AllReadyH.cons rfl (fun K hK => ?_) (AllReadyH.cons rfl (fun K hK => ?_) (AllReadyH.cons rfl (fun K hK => ?_) AllReadyH.nil))
          · go_simp
            refine hK.out _ _ hHeld (fun hHeld => ?_)
            clear hK K
            try simp only [Act.put, List.setIfInBounds_toArray, List.set_cons_zero, List.set_cons_succ]
            refine wpAnyH_take (i := 2) (v := .int .i64 (tr + 1)) rfl (by kernel_rfl) (by kernel_rfl) (by kernel_rfl) (fun _ _ _ h => h) (Or.inl ⟨by rfl, fun w' hw' => by go_simp; first | done | exact wrapI (by omega) (by omega)⟩) hHeld ?_
            try simp only [Act.put, List.setIfInBounds_toArray, List.set_cons_zero, List.set_cons_succ]
            refine wpAnyH_ready (rs := [8, 20]) (by kernel_rfl) (by simp) ?_
            refine AllReadyH.cons rfl (fun K hK => ?_) (AllReadyH.cons rfl (fun K hK => ?_) AllReadyH.nil)
            · go_simp
              refine hK.out _ _ hHeld (fun hHeld => ?_)
              clear hK K
              try simp only [Act.put, List.setIfInBounds_toArray, List.set_cons_zero, List.set_cons_succ]
              refine wpAnyH_take (i := 9) (v := .int .i64 sh) rfl (by kernel_rfl) (by kernel_rfl) (by kernel_rfl) (fun _ _ _ h => h) (Or.inl ⟨by rfl, fun w' hw' => by go_simp; rw [HSH.out]; exact wrapI (by omega) (by omega)⟩) hHeld ?_
              try simp only [Act.put, List.setIfInBounds_toArray, List.set_cons_zero, List.set_cons_succ]
              refine wpAnyH_take (i := 14) (v := .int .i64 wt) rfl (by kernel_rfl) (by kernel_rfl) (by kernel_rfl) (fun _ _ _ h => h) (Or.inl ⟨by rfl, fun w' hw' => by go_simp; rw [HWD.out]; exact min_if _ _⟩) hHeld ?_
              try simp only [Act.put, List.setIfInBounds_toArray, List.set_cons_zero, List.set_cons_succ]
              refine wpAnyH_ready (rs := [20]) (by kernel_rfl) (by simp) ?_
              refine AllReadyH.cons rfl (fun K hK => ?_) AllReadyH.nil
              · go_simp
                refine (HBEL WA TR.out.die).out.mono ?_
                rintro e w11 ⟨rfl, hd11, hg11⟩
                have UR := Lib.hid (TR.out.dice hd11 hg11)
                have US := Lib.hid (TS.out.grown hg11 (fun e => by have := (HFR.out sb (by omega)).1; have := TR.out.dl; injection e with e; omega))
                have UE := Lib.hid (TE.out.grown hg11 (fun e => by have := (HFR.out eb (Nat.le_refl _)).1; have := TR.out.dl; injection e with e; omega))
                clear TS TE TR a0 hd11 hg11 HBEL
                have b0 : w11.cell? ⟨sb, 0, none⟩ = some (.int .i64 tr) := US.out.cell 0
                have b1 : w11.cell? ⟨sb, 1, none⟩ = some (.int .i64 (lf - 1)) := US.out.cell 1
                have q0 : w11.frozen? ⟨sb, 0, none⟩ = false := US.out.frozen 0
                have q1 : w11.frozen? ⟨sb, 1, none⟩ = false := US.out.frozen 1
                refine hK.out _ _ ⟨(tb_cells UR.out.blk).1, (tb_cells UR.out.blk).2.1⟩ (fun hHeld => ?_)
                clear hK K
                try simp only [Act.put, List.setIfInBounds_toArray, List.set_cons_zero, List.set_cons_succ]
                refine wpAnyH_take (i := 21) (v := .int .i64 (wt + bv)) rfl (by kernel_rfl) (by kernel_rfl) (by kernel_rfl) (fun _ _ _ h => h) (Or.inl ⟨by rfl, fun w' hw' => by go_simp; first | done | exact wrapI (by omega) (by omega)⟩) hHeld ?_
                try simp only [Act.put, List.setIfInBounds_toArray, List.set_cons_zero, List.set_cons_succ]
                refine wpAnyH_take (i := 22) (v := .agg #[.int .i64 (tr + 1), .int .i64 (wt + bv)]) rfl (by kernel_rfl) (by kernel_rfl) (by kernel_rfl) (fun _ _ _ h => h) (Or.inl ⟨by rfl, fun w' hw' => by go_simp⟩) hHeld ?_
                try simp only [Act.put, List.setIfInBounds_toArray, List.set_cons_zero, List.set_cons_succ]
                have VS := Lib.hid ((US.out.set_ 0 (.int .i64 (tr + 1))).set_ 1 (.int .i64 (wt + bv)))
                have hgX := grown_two w11 sb (.int .i64 (tr + 1)) (.int .i64 (wt + bv))
                have VE := Lib.hid (UE.out.grown hgX (fun e => by injection e with e; omega))
                have VR := Lib.hid (UR.out.kept hgX (fun k e => by cases e; exact ⟨(HFR.out _ (by omega)).1, (HFR.out _ (by omega)).2.1, HF9.out, (HFR.out _ (by omega)).2.2.2⟩))
                clear US UE UR hgX
                refine wpAnyH_ready (rs := [23]) (by kernel_rfl) (by simp) ?_
                refine AllReadyH.cons rfl (fun K hK => ?_) AllReadyH.nil
                go_simp
                refine hK.out _ _ ⟨(tb_cells VR.out.blk).1, (tb_cells VR.out.blk).2.1⟩ (fun hHeld => ?_)
                clear hK K
                try simp only [Act.put, List.setIfInBounds_toArray, List.set_cons_zero, List.set_cons_succ]
                refine wpAnyH_done (by kernel_rfl) ?_ _
                clear b0 b1 q0 q1 hHeld
                generalize (w11.setCell ⟨sb, 0, none⟩ (.int .i64 (tr + 1))).setCell ⟨sb, 1, none⟩ (.int .i64 (wt + bv)) = WX at VS VE VR ⊢
                go_wp2_with fail
                have T1 := Lib.hid VS.out.drew
                have T2 := Lib.hid VE.out.drew
                have T3 := Lib.hid VR.out.drew
                clear VS VE VR
                refine wp_region_still_tail 6 (by kernel_rfl) (by kernel_rfl) ?_
                simp only [List.take_succ_cons, List.take_zero, List.drop_succ_cons, List.drop_zero]
                change wpStill _ _ (World.drew _) (fun a' => wpList _ _ _ _ a' (World.drew _)) _ _
                generalize (WX).drew = W7 at T1 T2 T3 ⊢
                have d3 := (tb_cells T3.out.blk).2.2.2
                have q0 : W7.cell? ⟨sb, 0, none⟩ = some (.int .i64 (tr + 1)) := T1.out.cell 0
                have q1 : W7.cell? ⟨sb, 1, none⟩ = some (.int .i64 (wt + bv)) := T1.out.cell 1
                have hl2 := run_loadAt_mid W7 eb 0 35 il _ (by have := T2.out.range; simpa using this) Try.underlying35 rfl (by simpa using HI.out)
                iterate 4 (still_step)
                refine wpStill_step (fun K hK => ?_)
                rw [if_pos (by rfl)]
                refine still_load 35 _ _ (.agg il.toArray) rfl rfl hl2 ?_
                go_simp
                refine hK _ ?_
                clear hK K hl2
                still_step
                refine wpStill_nil ?_
                refine wpList_put x (tr + 1, wt + bv) (P ++ (x, (tr + 1, wt + bv)) :: Rr) rfl _ _ _ rfl rfl HWV.out.symm rfl T3.out.tab (by rw [lk_mid sm1, if_pos rfl]) (fun y hy => by rw [lk_mid sm1, lk_mid sm1, if_neg hy, if_neg hy]) (by rw [lk_mid sm1, if_pos rfl]; simp) (by unfold maxLen; simp; omega) ?_
                intro w8 ht8 hg8
                have HR8 := Lib.hid (T3.out.map ht8 (srt_mid (s' := (tr + 1, wt + bv)) T3.out.srt).2.2.1 hg8)
                clear ht8 hg8 d3 q0 q1 T1 T2 T3
                go_wp2_with fail
                go_roundw
                case rel =>
                  refine ⟨i + 1, by omega, by go_num, ?_, by rw [HDR.out, HST.out]; exact HOK.out⟩
                  rw [HTS.out, HDR.out]
                  simp only [List.append_assoc, List.cons_append, List.nil_append]
                  exact HR8.out
                case measure => simp [intOf]; omega
            · go_simp
              refine (HBEL WA TR.out.die).out.mono ?_
              rintro e w11 ⟨rfl, hd11, hg11⟩
              have UR := Lib.hid (TR.out.dice hd11 hg11)
              have US := Lib.hid (TS.out.grown hg11 (fun e => by have := (HFR.out sb (by omega)).1; have := TR.out.dl; injection e with e; omega))
              have UE := Lib.hid (TE.out.grown hg11 (fun e => by have := (HFR.out eb (Nat.le_refl _)).1; have := TR.out.dl; injection e with e; omega))
              clear TS TE TR a0 hd11 hg11 HBEL
              have b0 : w11.cell? ⟨sb, 0, none⟩ = some (.int .i64 tr) := US.out.cell 0
              have b1 : w11.cell? ⟨sb, 1, none⟩ = some (.int .i64 (lf - 1)) := US.out.cell 1
              have q0 : w11.frozen? ⟨sb, 0, none⟩ = false := US.out.frozen 0
              have q1 : w11.frozen? ⟨sb, 1, none⟩ = false := US.out.frozen 1
              refine hK.out _ _ ⟨(tb_cells UR.out.blk).1, (tb_cells UR.out.blk).2.1⟩ (fun hHeld => ?_)
              clear hK K
              try simp only [Act.put, List.setIfInBounds_toArray, List.set_cons_zero, List.set_cons_succ]
              refine wpAnyH_ready (rs := [8]) (by kernel_rfl) (by simp) ?_
              refine AllReadyH.cons rfl (fun K hK => ?_) AllReadyH.nil
              · go_simp
                refine hK.out _ _ hHeld (fun hHeld => ?_)
                clear hK K
                try simp only [Act.put, List.setIfInBounds_toArray, List.set_cons_zero, List.set_cons_succ]
                refine wpAnyH_take (i := 9) (v := .int .i64 sh) rfl (by kernel_rfl) (by kernel_rfl) (by kernel_rfl) (fun _ _ _ h => h) (Or.inl ⟨by rfl, fun w' hw' => by go_simp; rw [HSH.out]; exact wrapI (by omega) (by omega)⟩) hHeld ?_
                try simp only [Act.put, List.setIfInBounds_toArray, List.set_cons_zero, List.set_cons_succ]
                refine wpAnyH_take (i := 14) (v := .int .i64 wt) rfl (by kernel_rfl) (by kernel_rfl) (by kernel_rfl) (fun _ _ _ h => h) (Or.inl ⟨by rfl, fun w' hw' => by go_simp; rw [HWD.out]; exact min_if _ _⟩) hHeld ?_
                try simp only [Act.put, List.setIfInBounds_toArray, List.set_cons_zero, List.set_cons_succ]
                refine wpAnyH_take (i := 21) (v := .int .i64 (wt + bv)) rfl (by kernel_rfl) (by kernel_rfl) (by kernel_rfl) (fun _ _ _ h => h) (Or.inl ⟨by rfl, fun w' hw' => by go_simp; first | done | exact wrapI (by omega) (by omega)⟩) hHeld ?_
                try simp only [Act.put, List.setIfInBounds_toArray, List.set_cons_zero, List.set_cons_succ]
                refine wpAnyH_take (i := 22) (v := .agg #[.int .i64 (tr + 1), .int .i64 (wt + bv)]) rfl (by kernel_rfl) (by kernel_rfl) (by kernel_rfl) (fun _ _ _ h => h) (Or.inl ⟨by rfl, fun w' hw' => by go_simp⟩) hHeld ?_
                try simp only [Act.put, List.setIfInBounds_toArray, List.set_cons_zero, List.set_cons_succ]
                have VS := Lib.hid ((US.out.set_ 0 (.int .i64 (tr + 1))).set_ 1 (.int .i64 (wt + bv)))
                have hgX := grown_two w11 sb (.int .i64 (tr + 1)) (.int .i64 (wt + bv))
                have VE := Lib.hid (UE.out.grown hgX (fun e => by injection e with e; omega))
                have VR := Lib.hid (UR.out.kept hgX (fun k e => by cases e; exact ⟨(HFR.out _ (by omega)).1, (HFR.out _ (by omega)).2.1, HF9.out, (HFR.out _ (by omega)).2.2.2⟩))
                clear US UE UR hgX
                refine wpAnyH_ready (rs := [23]) (by kernel_rfl) (by simp) ?_
                refine AllReadyH.cons rfl (fun K hK => ?_) AllReadyH.nil
                go_simp
                refine hK.out _ _ ⟨(tb_cells VR.out.blk).1, (tb_cells VR.out.blk).2.1⟩ (fun hHeld => ?_)
                clear hK K
                try simp only [Act.put, List.setIfInBounds_toArray, List.set_cons_zero, List.set_cons_succ]
                refine wpAnyH_done (by kernel_rfl) ?_ _
                clear b0 b1 q0 q1 hHeld
                generalize (w11.setCell ⟨sb, 0, none⟩ (.int .i64 (tr + 1))).setCell ⟨sb, 1, none⟩ (.int .i64 (wt + bv)) = WX at VS VE VR ⊢
                go_wp2_with fail
                have T1 := Lib.hid VS.out.drew
                have T2 := Lib.hid VE.out.drew
                have T3 := Lib.hid VR.out.drew
                clear VS VE VR
                refine wp_region_still_tail 6 (by kernel_rfl) (by kernel_rfl) ?_
                simp only [List.take_succ_cons, List.take_zero, List.drop_succ_cons, List.drop_zero]
                change wpStill _ _ (World.drew _) (fun a' => wpList _ _ _ _ a' (World.drew _)) _ _
                generalize (WX).drew = W7 at T1 T2 T3 ⊢
                have d3 := (tb_cells T3.out.blk).2.2.2
                have q0 : W7.cell? ⟨sb, 0, none⟩ = some (.int .i64 (tr + 1)) := T1.out.cell 0
                have q1 : W7.cell? ⟨sb, 1, none⟩ = some (.int .i64 (wt + bv)) := T1.out.cell 1
                have hl2 := run_loadAt_mid W7 eb 0 35 il _ (by have := T2.out.range; simpa using this) Try.underlying35 rfl (by simpa using HI.out)
                iterate 4 (still_step)
                refine wpStill_step (fun K hK => ?_)
                rw [if_pos (by rfl)]
                refine still_load 35 _ _ (.agg il.toArray) rfl rfl hl2 ?_
                go_simp
                refine hK _ ?_
                clear hK K hl2
                still_step
                refine wpStill_nil ?_
                refine wpList_put x (tr + 1, wt + bv) (P ++ (x, (tr + 1, wt + bv)) :: Rr) rfl _ _ _ rfl rfl HWV.out.symm rfl T3.out.tab (by rw [lk_mid sm1, if_pos rfl]) (fun y hy => by rw [lk_mid sm1, lk_mid sm1, if_neg hy, if_neg hy]) (by rw [lk_mid sm1, if_pos rfl]; simp) (by unfold maxLen; simp; omega) ?_
                intro w8 ht8 hg8
                have HR8 := Lib.hid (T3.out.map ht8 (srt_mid (s' := (tr + 1, wt + bv)) T3.out.srt).2.2.1 hg8)
                clear ht8 hg8 d3 q0 q1 T1 T2 T3
                go_wp2_with fail
                go_roundw
                case rel =>
                  refine ⟨i + 1, by omega, by go_num, ?_, by rw [HDR.out, HST.out]; exact HOK.out⟩
                  rw [HTS.out, HDR.out]
                  simp only [List.append_assoc, List.cons_append, List.nil_append]
                  exact HR8.out
                case measure => simp [intOf]; omega
          · go_simp
            refine hK.out _ _ hHeld (fun hHeld => ?_)
            clear hK K
            try simp only [Act.put, List.setIfInBounds_toArray, List.set_cons_zero, List.set_cons_succ]
            refine wpAnyH_take (i := 9) (v := .int .i64 sh) rfl (by kernel_rfl) (by kernel_rfl) (by kernel_rfl) (fun _ _ _ h => h) (Or.inl ⟨by rfl, fun w' hw' => by go_simp; rw [HSH.out]; exact wrapI (by omega) (by omega)⟩) hHeld ?_
            try simp only [Act.put, List.setIfInBounds_toArray, List.set_cons_zero, List.set_cons_succ]
            refine wpAnyH_take (i := 14) (v := .int .i64 wt) rfl (by kernel_rfl) (by kernel_rfl) (by kernel_rfl) (fun _ _ _ h => h) (Or.inl ⟨by rfl, fun w' hw' => by go_simp; rw [HWD.out]; exact min_if _ _⟩) hHeld ?_
            try simp only [Act.put, List.setIfInBounds_toArray, List.set_cons_zero, List.set_cons_succ]
            refine wpAnyH_ready (rs := [1, 20]) (by kernel_rfl) (by simp) ?_
            refine AllReadyH.cons rfl (fun K hK => ?_) (AllReadyH.cons rfl (fun K hK => ?_) AllReadyH.nil)
            · go_simp
              refine hK.out _ _ hHeld (fun hHeld => ?_)
              clear hK K
              try simp only [Act.put, List.setIfInBounds_toArray, List.set_cons_zero, List.set_cons_succ]
              refine wpAnyH_take (i := 2) (v := .int .i64 (tr + 1)) rfl (by kernel_rfl) (by kernel_rfl) (by kernel_rfl) (fun _ _ _ h => h) (Or.inl ⟨by rfl, fun w' hw' => by go_simp; first | done | exact wrapI (by omega) (by omega)⟩) hHeld ?_
              try simp only [Act.put, List.setIfInBounds_toArray, List.set_cons_zero, List.set_cons_succ]
              refine wpAnyH_ready (rs := [20]) (by kernel_rfl) (by simp) ?_
              refine AllReadyH.cons rfl (fun K hK => ?_) AllReadyH.nil
              · go_simp
                refine (HBEL WA TR.out.die).out.mono ?_
                rintro e w11 ⟨rfl, hd11, hg11⟩
                have UR := Lib.hid (TR.out.dice hd11 hg11)
                have US := Lib.hid (TS.out.grown hg11 (fun e => by have := (HFR.out sb (by omega)).1; have := TR.out.dl; injection e with e; omega))
                have UE := Lib.hid (TE.out.grown hg11 (fun e => by have := (HFR.out eb (Nat.le_refl _)).1; have := TR.out.dl; injection e with e; omega))
                clear TS TE TR a0 hd11 hg11 HBEL
                have b0 : w11.cell? ⟨sb, 0, none⟩ = some (.int .i64 tr) := US.out.cell 0
                have b1 : w11.cell? ⟨sb, 1, none⟩ = some (.int .i64 (lf - 1)) := US.out.cell 1
                have q0 : w11.frozen? ⟨sb, 0, none⟩ = false := US.out.frozen 0
                have q1 : w11.frozen? ⟨sb, 1, none⟩ = false := US.out.frozen 1
                refine hK.out _ _ ⟨(tb_cells UR.out.blk).1, (tb_cells UR.out.blk).2.1⟩ (fun hHeld => ?_)
                clear hK K
                try simp only [Act.put, List.setIfInBounds_toArray, List.set_cons_zero, List.set_cons_succ]
                refine wpAnyH_take (i := 21) (v := .int .i64 (wt + bv)) rfl (by kernel_rfl) (by kernel_rfl) (by kernel_rfl) (fun _ _ _ h => h) (Or.inl ⟨by rfl, fun w' hw' => by go_simp; first | done | exact wrapI (by omega) (by omega)⟩) hHeld ?_
                try simp only [Act.put, List.setIfInBounds_toArray, List.set_cons_zero, List.set_cons_succ]
                refine wpAnyH_take (i := 22) (v := .agg #[.int .i64 (tr + 1), .int .i64 (wt + bv)]) rfl (by kernel_rfl) (by kernel_rfl) (by kernel_rfl) (fun _ _ _ h => h) (Or.inl ⟨by rfl, fun w' hw' => by go_simp⟩) hHeld ?_
                try simp only [Act.put, List.setIfInBounds_toArray, List.set_cons_zero, List.set_cons_succ]
                have VS := Lib.hid ((US.out.set_ 0 (.int .i64 (tr + 1))).set_ 1 (.int .i64 (wt + bv)))
                have hgX := grown_two w11 sb (.int .i64 (tr + 1)) (.int .i64 (wt + bv))
                have VE := Lib.hid (UE.out.grown hgX (fun e => by injection e with e; omega))
                have VR := Lib.hid (UR.out.kept hgX (fun k e => by cases e; exact ⟨(HFR.out _ (by omega)).1, (HFR.out _ (by omega)).2.1, HF9.out, (HFR.out _ (by omega)).2.2.2⟩))
                clear US UE UR hgX
                refine wpAnyH_ready (rs := [23]) (by kernel_rfl) (by simp) ?_
                refine AllReadyH.cons rfl (fun K hK => ?_) AllReadyH.nil
                go_simp
                refine hK.out _ _ ⟨(tb_cells VR.out.blk).1, (tb_cells VR.out.blk).2.1⟩ (fun hHeld => ?_)
                clear hK K
                try simp only [Act.put, List.setIfInBounds_toArray, List.set_cons_zero, List.set_cons_succ]
                refine wpAnyH_done (by kernel_rfl) ?_ _
                clear b0 b1 q0 q1 hHeld
                generalize (w11.setCell ⟨sb, 0, none⟩ (.int .i64 (tr + 1))).setCell ⟨sb, 1, none⟩ (.int .i64 (wt + bv)) = WX at VS VE VR ⊢
                go_wp2_with fail
                have T1 := Lib.hid VS.out.drew
                have T2 := Lib.hid VE.out.drew
                have T3 := Lib.hid VR.out.drew
                clear VS VE VR
                refine wp_region_still_tail 6 (by kernel_rfl) (by kernel_rfl) ?_
                simp only [List.take_succ_cons, List.take_zero, List.drop_succ_cons, List.drop_zero]
                change wpStill _ _ (World.drew _) (fun a' => wpList _ _ _ _ a' (World.drew _)) _ _
                generalize (WX).drew = W7 at T1 T2 T3 ⊢
                have d3 := (tb_cells T3.out.blk).2.2.2
                have q0 : W7.cell? ⟨sb, 0, none⟩ = some (.int .i64 (tr + 1)) := T1.out.cell 0
                have q1 : W7.cell? ⟨sb, 1, none⟩ = some (.int .i64 (wt + bv)) := T1.out.cell 1
                have hl2 := run_loadAt_mid W7 eb 0 35 il _ (by have := T2.out.range; simpa using this) Try.underlying35 rfl (by simpa using HI.out)
                iterate 4 (still_step)
                refine wpStill_step (fun K hK => ?_)
                rw [if_pos (by rfl)]
                refine still_load 35 _ _ (.agg il.toArray) rfl rfl hl2 ?_
                go_simp
                refine hK _ ?_
                clear hK K hl2
                still_step
                refine wpStill_nil ?_
                refine wpList_put x (tr + 1, wt + bv) (P ++ (x, (tr + 1, wt + bv)) :: Rr) rfl _ _ _ rfl rfl HWV.out.symm rfl T3.out.tab (by rw [lk_mid sm1, if_pos rfl]) (fun y hy => by rw [lk_mid sm1, lk_mid sm1, if_neg hy, if_neg hy]) (by rw [lk_mid sm1, if_pos rfl]; simp) (by unfold maxLen; simp; omega) ?_
                intro w8 ht8 hg8
                have HR8 := Lib.hid (T3.out.map ht8 (srt_mid (s' := (tr + 1, wt + bv)) T3.out.srt).2.2.1 hg8)
                clear ht8 hg8 d3 q0 q1 T1 T2 T3
                go_wp2_with fail
                go_roundw
                case rel =>
                  refine ⟨i + 1, by omega, by go_num, ?_, by rw [HDR.out, HST.out]; exact HOK.out⟩
                  rw [HTS.out, HDR.out]
                  simp only [List.append_assoc, List.cons_append, List.nil_append]
                  exact HR8.out
                case measure => simp [intOf]; omega
            · go_simp
              refine (HBEL WA TR.out.die).out.mono ?_
              rintro e w11 ⟨rfl, hd11, hg11⟩
              have UR := Lib.hid (TR.out.dice hd11 hg11)
              have US := Lib.hid (TS.out.grown hg11 (fun e => by have := (HFR.out sb (by omega)).1; have := TR.out.dl; injection e with e; omega))
              have UE := Lib.hid (TE.out.grown hg11 (fun e => by have := (HFR.out eb (Nat.le_refl _)).1; have := TR.out.dl; injection e with e; omega))
              clear TS TE TR a0 hd11 hg11 HBEL
              have b0 : w11.cell? ⟨sb, 0, none⟩ = some (.int .i64 tr) := US.out.cell 0
              have b1 : w11.cell? ⟨sb, 1, none⟩ = some (.int .i64 (lf - 1)) := US.out.cell 1
              have q0 : w11.frozen? ⟨sb, 0, none⟩ = false := US.out.frozen 0
              have q1 : w11.frozen? ⟨sb, 1, none⟩ = false := US.out.frozen 1
              refine hK.out _ _ ⟨(tb_cells UR.out.blk).1, (tb_cells UR.out.blk).2.1⟩ (fun hHeld => ?_)
              clear hK K
              try simp only [Act.put, List.setIfInBounds_toArray, List.set_cons_zero, List.set_cons_succ]
              refine wpAnyH_take (i := 21) (v := .int .i64 (wt + bv)) rfl (by kernel_rfl) (by kernel_rfl) (by kernel_rfl) (fun _ _ _ h => h) (Or.inl ⟨by rfl, fun w' hw' => by go_simp; first | done | exact wrapI (by omega) (by omega)⟩) hHeld ?_
              try simp only [Act.put, List.setIfInBounds_toArray, List.set_cons_zero, List.set_cons_succ]
              refine wpAnyH_ready (rs := [1]) (by kernel_rfl) (by simp) ?_
              refine AllReadyH.cons rfl (fun K hK => ?_) AllReadyH.nil
              · go_simp
                refine hK.out _ _ hHeld (fun hHeld => ?_)
                clear hK K
                try simp only [Act.put, List.setIfInBounds_toArray, List.set_cons_zero, List.set_cons_succ]
                refine wpAnyH_take (i := 2) (v := .int .i64 (tr + 1)) rfl (by kernel_rfl) (by kernel_rfl) (by kernel_rfl) (fun _ _ _ h => h) (Or.inl ⟨by rfl, fun w' hw' => by go_simp; first | done | exact wrapI (by omega) (by omega)⟩) hHeld ?_
                try simp only [Act.put, List.setIfInBounds_toArray, List.set_cons_zero, List.set_cons_succ]
                refine wpAnyH_take (i := 22) (v := .agg #[.int .i64 (tr + 1), .int .i64 (wt + bv)]) rfl (by kernel_rfl) (by kernel_rfl) (by kernel_rfl) (fun _ _ _ h => h) (Or.inl ⟨by rfl, fun w' hw' => by go_simp⟩) hHeld ?_
                try simp only [Act.put, List.setIfInBounds_toArray, List.set_cons_zero, List.set_cons_succ]
                have VS := Lib.hid ((US.out.set_ 0 (.int .i64 (tr + 1))).set_ 1 (.int .i64 (wt + bv)))
                have hgX := grown_two w11 sb (.int .i64 (tr + 1)) (.int .i64 (wt + bv))
                have VE := Lib.hid (UE.out.grown hgX (fun e => by injection e with e; omega))
                have VR := Lib.hid (UR.out.kept hgX (fun k e => by cases e; exact ⟨(HFR.out _ (by omega)).1, (HFR.out _ (by omega)).2.1, HF9.out, (HFR.out _ (by omega)).2.2.2⟩))
                clear US UE UR hgX
                refine wpAnyH_ready (rs := [23]) (by kernel_rfl) (by simp) ?_
                refine AllReadyH.cons rfl (fun K hK => ?_) AllReadyH.nil
                go_simp
                refine hK.out _ _ ⟨(tb_cells VR.out.blk).1, (tb_cells VR.out.blk).2.1⟩ (fun hHeld => ?_)
                clear hK K
                try simp only [Act.put, List.setIfInBounds_toArray, List.set_cons_zero, List.set_cons_succ]
                refine wpAnyH_done (by kernel_rfl) ?_ _
                clear b0 b1 q0 q1 hHeld
                generalize (w11.setCell ⟨sb, 0, none⟩ (.int .i64 (tr + 1))).setCell ⟨sb, 1, none⟩ (.int .i64 (wt + bv)) = WX at VS VE VR ⊢
                go_wp2_with fail
                have T1 := Lib.hid VS.out.drew
                have T2 := Lib.hid VE.out.drew
                have T3 := Lib.hid VR.out.drew
                clear VS VE VR
                refine wp_region_still_tail 6 (by kernel_rfl) (by kernel_rfl) ?_
                simp only [List.take_succ_cons, List.take_zero, List.drop_succ_cons, List.drop_zero]
                change wpStill _ _ (World.drew _) (fun a' => wpList _ _ _ _ a' (World.drew _)) _ _
                generalize (WX).drew = W7 at T1 T2 T3 ⊢
                have d3 := (tb_cells T3.out.blk).2.2.2
                have q0 : W7.cell? ⟨sb, 0, none⟩ = some (.int .i64 (tr + 1)) := T1.out.cell 0
                have q1 : W7.cell? ⟨sb, 1, none⟩ = some (.int .i64 (wt + bv)) := T1.out.cell 1
                have hl2 := run_loadAt_mid W7 eb 0 35 il _ (by have := T2.out.range; simpa using this) Try.underlying35 rfl (by simpa using HI.out)
                iterate 4 (still_step)
                refine wpStill_step (fun K hK => ?_)
                rw [if_pos (by rfl)]
                refine still_load 35 _ _ (.agg il.toArray) rfl rfl hl2 ?_
                go_simp
                refine hK _ ?_
                clear hK K hl2
                still_step
                refine wpStill_nil ?_
                refine wpList_put x (tr + 1, wt + bv) (P ++ (x, (tr + 1, wt + bv)) :: Rr) rfl _ _ _ rfl rfl HWV.out.symm rfl T3.out.tab (by rw [lk_mid sm1, if_pos rfl]) (fun y hy => by rw [lk_mid sm1, lk_mid sm1, if_neg hy, if_neg hy]) (by rw [lk_mid sm1, if_pos rfl]; simp) (by unfold maxLen; simp; omega) ?_
                intro w8 ht8 hg8
                have HR8 := Lib.hid (T3.out.map ht8 (srt_mid (s' := (tr + 1, wt + bv)) T3.out.srt).2.2.1 hg8)
                clear ht8 hg8 d3 q0 q1 T1 T2 T3
                go_wp2_with fail
                go_roundw
                case rel =>
                  refine ⟨i + 1, by omega, by go_num, ?_, by rw [HDR.out, HST.out]; exact HOK.out⟩
                  rw [HTS.out, HDR.out]
                  simp only [List.append_assoc, List.cons_append, List.nil_append]
                  exact HR8.out
                case measure => simp [intOf]; omega
          · go_simp
            refine (HBEL WA TR.out.die).out.mono ?_
            rintro e w11 ⟨rfl, hd11, hg11⟩
            have UR := Lib.hid (TR.out.dice hd11 hg11)
            have US := Lib.hid (TS.out.grown hg11 (fun e => by have := (HFR.out sb (by omega)).1; have := TR.out.dl; injection e with e; omega))
            have UE := Lib.hid (TE.out.grown hg11 (fun e => by have := (HFR.out eb (Nat.le_refl _)).1; have := TR.out.dl; injection e with e; omega))
            clear TS TE TR a0 hd11 hg11 HBEL
            have b0 : w11.cell? ⟨sb, 0, none⟩ = some (.int .i64 tr) := US.out.cell 0
            have b1 : w11.cell? ⟨sb, 1, none⟩ = some (.int .i64 (lf - 1)) := US.out.cell 1
            have q0 : w11.frozen? ⟨sb, 0, none⟩ = false := US.out.frozen 0
            have q1 : w11.frozen? ⟨sb, 1, none⟩ = false := US.out.frozen 1
            refine hK.out _ _ ⟨(tb_cells UR.out.blk).1, (tb_cells UR.out.blk).2.1⟩ (fun hHeld => ?_)
            clear hK K
            try simp only [Act.put, List.setIfInBounds_toArray, List.set_cons_zero, List.set_cons_succ]
            refine wpAnyH_ready (rs := [1, 8]) (by kernel_rfl) (by simp) ?_
            refine AllReadyH.cons rfl (fun K hK => ?_) (AllReadyH.cons rfl (fun K hK => ?_) AllReadyH.nil)
            · go_simp
              refine hK.out _ _ hHeld (fun hHeld => ?_)
              clear hK K
              try simp only [Act.put, List.setIfInBounds_toArray, List.set_cons_zero, List.set_cons_succ]
              refine wpAnyH_take (i := 2) (v := .int .i64 (tr + 1)) rfl (by kernel_rfl) (by kernel_rfl) (by kernel_rfl) (fun _ _ _ h => h) (Or.inl ⟨by rfl, fun w' hw' => by go_simp; first | done | exact wrapI (by omega) (by omega)⟩) hHeld ?_
              try simp only [Act.put, List.setIfInBounds_toArray, List.set_cons_zero, List.set_cons_succ]
              refine wpAnyH_ready (rs := [8]) (by kernel_rfl) (by simp) ?_
              refine AllReadyH.cons rfl (fun K hK => ?_) AllReadyH.nil
              · go_simp
                refine hK.out _ _ hHeld (fun hHeld => ?_)
                clear hK K
                try simp only [Act.put, List.setIfInBounds_toArray, List.set_cons_zero, List.set_cons_succ]
                refine wpAnyH_take (i := 9) (v := .int .i64 sh) rfl (by kernel_rfl) (by kernel_rfl) (by kernel_rfl) (fun _ _ _ h => h) (Or.inl ⟨by rfl, fun w' hw' => by go_simp; rw [HSH.out]; exact wrapI (by omega) (by omega)⟩) hHeld ?_
                try simp only [Act.put, List.setIfInBounds_toArray, List.set_cons_zero, List.set_cons_succ]
                refine wpAnyH_take (i := 14) (v := .int .i64 wt) rfl (by kernel_rfl) (by kernel_rfl) (by kernel_rfl) (fun _ _ _ h => h) (Or.inl ⟨by rfl, fun w' hw' => by go_simp; rw [HWD.out]; exact min_if _ _⟩) hHeld ?_
                try simp only [Act.put, List.setIfInBounds_toArray, List.set_cons_zero, List.set_cons_succ]
                refine wpAnyH_take (i := 21) (v := .int .i64 (wt + bv)) rfl (by kernel_rfl) (by kernel_rfl) (by kernel_rfl) (fun _ _ _ h => h) (Or.inl ⟨by rfl, fun w' hw' => by go_simp; first | done | exact wrapI (by omega) (by omega)⟩) hHeld ?_
                try simp only [Act.put, List.setIfInBounds_toArray, List.set_cons_zero, List.set_cons_succ]
                refine wpAnyH_take (i := 22) (v := .agg #[.int .i64 (tr + 1), .int .i64 (wt + bv)]) rfl (by kernel_rfl) (by kernel_rfl) (by kernel_rfl) (fun _ _ _ h => h) (Or.inl ⟨by rfl, fun w' hw' => by go_simp⟩) hHeld ?_
                try simp only [Act.put, List.setIfInBounds_toArray, List.set_cons_zero, List.set_cons_succ]
                have VS := Lib.hid ((US.out.set_ 0 (.int .i64 (tr + 1))).set_ 1 (.int .i64 (wt + bv)))
                have hgX := grown_two w11 sb (.int .i64 (tr + 1)) (.int .i64 (wt + bv))
                have VE := Lib.hid (UE.out.grown hgX (fun e => by injection e with e; omega))
                have VR := Lib.hid (UR.out.kept hgX (fun k e => by cases e; exact ⟨(HFR.out _ (by omega)).1, (HFR.out _ (by omega)).2.1, HF9.out, (HFR.out _ (by omega)).2.2.2⟩))
                clear US UE UR hgX
                refine wpAnyH_ready (rs := [23]) (by kernel_rfl) (by simp) ?_
                refine AllReadyH.cons rfl (fun K hK => ?_) AllReadyH.nil
                go_simp
                refine hK.out _ _ ⟨(tb_cells VR.out.blk).1, (tb_cells VR.out.blk).2.1⟩ (fun hHeld => ?_)
                clear hK K
                try simp only [Act.put, List.setIfInBounds_toArray, List.set_cons_zero, List.set_cons_succ]
                refine wpAnyH_done (by kernel_rfl) ?_ _
                clear b0 b1 q0 q1 hHeld
                generalize (w11.setCell ⟨sb, 0, none⟩ (.int .i64 (tr + 1))).setCell ⟨sb, 1, none⟩ (.int .i64 (wt + bv)) = WX at VS VE VR ⊢
                go_wp2_with fail
                have T1 := Lib.hid VS.out.drew
                have T2 := Lib.hid VE.out.drew
                have T3 := Lib.hid VR.out.drew
                clear VS VE VR
                refine wp_region_still_tail 6 (by kernel_rfl) (by kernel_rfl) ?_
                simp only [List.take_succ_cons, List.take_zero, List.drop_succ_cons, List.drop_zero]
                change wpStill _ _ (World.drew _) (fun a' => wpList _ _ _ _ a' (World.drew _)) _ _
                generalize (WX).drew = W7 at T1 T2 T3 ⊢
                have d3 := (tb_cells T3.out.blk).2.2.2
                have q0 : W7.cell? ⟨sb, 0, none⟩ = some (.int .i64 (tr + 1)) := T1.out.cell 0
                have q1 : W7.cell? ⟨sb, 1, none⟩ = some (.int .i64 (wt + bv)) := T1.out.cell 1
                have hl2 := run_loadAt_mid W7 eb 0 35 il _ (by have := T2.out.range; simpa using this) Try.underlying35 rfl (by simpa using HI.out)
                iterate 4 (still_step)
                refine wpStill_step (fun K hK => ?_)
                rw [if_pos (by rfl)]
                refine still_load 35 _ _ (.agg il.toArray) rfl rfl hl2 ?_
                go_simp
                refine hK _ ?_
                clear hK K hl2
                still_step
                refine wpStill_nil ?_
                refine wpList_put x (tr + 1, wt + bv) (P ++ (x, (tr + 1, wt + bv)) :: Rr) rfl _ _ _ rfl rfl HWV.out.symm rfl T3.out.tab (by rw [lk_mid sm1, if_pos rfl]) (fun y hy => by rw [lk_mid sm1, lk_mid sm1, if_neg hy, if_neg hy]) (by rw [lk_mid sm1, if_pos rfl]; simp) (by unfold maxLen; simp; omega) ?_
                intro w8 ht8 hg8
                have HR8 := Lib.hid (T3.out.map ht8 (srt_mid (s' := (tr + 1, wt + bv)) T3.out.srt).2.2.1 hg8)
                clear ht8 hg8 d3 q0 q1 T1 T2 T3
                go_wp2_with fail
                go_roundw
                case rel =>
                  refine ⟨i + 1, by omega, by go_num, ?_, by rw [HDR.out, HST.out]; exact HOK.out⟩
                  rw [HTS.out, HDR.out]
                  simp only [List.append_assoc, List.cons_append, List.nil_append]
                  exact HR8.out
                case measure => simp [intOf]; omega
            · go_simp
              refine hK.out _ _ hHeld (fun hHeld => ?_)
              clear hK K
              try simp only [Act.put, List.setIfInBounds_toArray, List.set_cons_zero, List.set_cons_succ]
              refine wpAnyH_take (i := 9) (v := .int .i64 sh) rfl (by kernel_rfl) (by kernel_rfl) (by kernel_rfl) (fun _ _ _ h => h) (Or.inl ⟨by rfl, fun w' hw' => by go_simp; rw [HSH.out]; exact wrapI (by omega) (by omega)⟩) hHeld ?_
              try simp only [Act.put, List.setIfInBounds_toArray, List.set_cons_zero, List.set_cons_succ]
              refine wpAnyH_take (i := 14) (v := .int .i64 wt) rfl (by kernel_rfl) (by kernel_rfl) (by kernel_rfl) (fun _ _ _ h => h) (Or.inl ⟨by rfl, fun w' hw' => by go_simp; rw [HWD.out]; exact min_if _ _⟩) hHeld ?_
              try simp only [Act.put, List.setIfInBounds_toArray, List.set_cons_zero, List.set_cons_succ]
              refine wpAnyH_take (i := 21) (v := .int .i64 (wt + bv)) rfl (by kernel_rfl) (by kernel_rfl) (by kernel_rfl) (fun _ _ _ h => h) (Or.inl ⟨by rfl, fun w' hw' => by go_simp; first | done | exact wrapI (by omega) (by omega)⟩) hHeld ?_
              try simp only [Act.put, List.setIfInBounds_toArray, List.set_cons_zero, List.set_cons_succ]
              refine wpAnyH_ready (rs := [1]) (by kernel_rfl) (by simp) ?_
              refine AllReadyH.cons rfl (fun K hK => ?_) AllReadyH.nil
              · go_simp
                refine hK.out _ _ hHeld (fun hHeld => ?_)
                clear hK K
                try simp only [Act.put, List.setIfInBounds_toArray, List.set_cons_zero, List.set_cons_succ]
                refine wpAnyH_take (i := 2) (v := .int .i64 (tr + 1)) rfl (by kernel_rfl) (by kernel_rfl) (by kernel_rfl) (fun _ _ _ h => h) (Or.inl ⟨by rfl, fun w' hw' => by go_simp; first | done | exact wrapI (by omega) (by omega)⟩) hHeld ?_
                try simp only [Act.put, List.setIfInBounds_toArray, List.set_cons_zero, List.set_cons_succ]
                refine wpAnyH_take (i := 22) (v := .agg #[.int .i64 (tr + 1), .int .i64 (wt + bv)]) rfl (by kernel_rfl) (by kernel_rfl) (by kernel_rfl) (fun _ _ _ h => h) (Or.inl ⟨by rfl, fun w' hw' => by go_simp⟩) hHeld ?_
                try simp only [Act.put, List.setIfInBounds_toArray, List.set_cons_zero, List.set_cons_succ]
                have VS := Lib.hid ((US.out.set_ 0 (.int .i64 (tr + 1))).set_ 1 (.int .i64 (wt + bv)))
                have hgX := grown_two w11 sb (.int .i64 (tr + 1)) (.int .i64 (wt + bv))
                have VE := Lib.hid (UE.out.grown hgX (fun e => by injection e with e; omega))
                have VR := Lib.hid (UR.out.kept hgX (fun k e => by cases e; exact ⟨(HFR.out _ (by omega)).1, (HFR.out _ (by omega)).2.1, HF9.out, (HFR.out _ (by omega)).2.2.2⟩))
                clear US UE UR hgX
                refine wpAnyH_ready (rs := [23]) (by kernel_rfl) (by simp) ?_
                refine AllReadyH.cons rfl (fun K hK => ?_) AllReadyH.nil
                go_simp
                refine hK.out _ _ ⟨(tb_cells VR.out.blk).1, (tb_cells VR.out.blk).2.1⟩ (fun hHeld => ?_)
                clear hK K
                try simp only [Act.put, List.setIfInBounds_toArray, List.set_cons_zero, List.set_cons_succ]
                refine wpAnyH_done (by kernel_rfl) ?_ _
                clear b0 b1 q0 q1 hHeld
                generalize (w11.setCell ⟨sb, 0, none⟩ (.int .i64 (tr + 1))).setCell ⟨sb, 1, none⟩ (.int .i64 (wt + bv)) = WX at VS VE VR ⊢
                go_wp2_with fail
                have T1 := Lib.hid VS.out.drew
                have T2 := Lib.hid VE.out.drew
                have T3 := Lib.hid VR.out.drew
                clear VS VE VR
                refine wp_region_still_tail 6 (by kernel_rfl) (by kernel_rfl) ?_
                simp only [List.take_succ_cons, List.take_zero, List.drop_succ_cons, List.drop_zero]
                change wpStill _ _ (World.drew _) (fun a' => wpList _ _ _ _ a' (World.drew _)) _ _
                generalize (WX).drew = W7 at T1 T2 T3 ⊢
                have d3 := (tb_cells T3.out.blk).2.2.2
                have q0 : W7.cell? ⟨sb, 0, none⟩ = some (.int .i64 (tr + 1)) := T1.out.cell 0
                have q1 : W7.cell? ⟨sb, 1, none⟩ = some (.int .i64 (wt + bv)) := T1.out.cell 1
                have hl2 := run_loadAt_mid W7 eb 0 35 il _ (by have := T2.out.range; simpa using this) Try.underlying35 rfl (by simpa using HI.out)
                iterate 4 (still_step)
                refine wpStill_step (fun K hK => ?_)
                rw [if_pos (by rfl)]
                refine still_load 35 _ _ (.agg il.toArray) rfl rfl hl2 ?_
                go_simp
                refine hK _ ?_
                clear hK K hl2
                still_step
                refine wpStill_nil ?_
                refine wpList_put x (tr + 1, wt + bv) (P ++ (x, (tr + 1, wt + bv)) :: Rr) rfl _ _ _ rfl rfl HWV.out.symm rfl T3.out.tab (by rw [lk_mid sm1, if_pos rfl]) (fun y hy => by rw [lk_mid sm1, lk_mid sm1, if_neg hy, if_neg hy]) (by rw [lk_mid sm1, if_pos rfl]; simp) (by unfold maxLen; simp; omega) ?_
                intro w8 ht8 hg8
                have HR8 := Lib.hid (T3.out.map ht8 (srt_mid (s' := (tr + 1, wt + bv)) T3.out.srt).2.2.1 hg8)
                clear ht8 hg8 d3 q0 q1 T1 T2 T3
                go_wp2_with fail
                go_roundw
                case rel =>
                  refine ⟨i + 1, by omega, by go_num, ?_, by rw [HDR.out, HST.out]; exact HOK.out⟩
                  rw [HTS.out, HDR.out]
                  simp only [List.append_assoc, List.cons_append, List.nil_append]
                  exact HR8.out
                case measure => simp [intOf]; omega
    · obtain rfl : i = E.length := by omega
      rw [tk_all, List.drop_eq_nil_of_le (Nat.le_refl _), List.append_nil] at R hok
      have HR := Lib.hid R
      clear R
      go_wp2_with fail
      go_ret2
      exact ⟨_, _, _, rfl, _, HR.out, hok⟩
end Go.Proofs.Ythjgmnafbikihaa
