/-
  Fetch, the document's answer: Start.
-/
import Derived.Test.YthjgmnafbikihaaRg
set_option linter.unusedVariables false
set_option linter.unusedSimpArgs false
namespace Go.Proofs.Ythjgmnafbikihaa
open Go.RowKit Go.Maps Go.Sort

set_option maxRecDepth 100000 in
set_option maxHeartbeats 2000000 in
theorem rstart_any (base most budget : Int) (A : Option Addr) (n c m0 : Nat) (E : En) (x : WS) (w : World) (h : w.ownsRow m0 78 68 (.slice A n c) n (qrow E)) (hn : E.length = n) (hm : n ≤ 100000) :
    Calls Try.prog 16 #[tv base most budget (.slice A n c), kv (oldK x), kv (nowK x)] w fun e w' => ∃ A' c' m', e = .returned (.tuple #[tv base most budget (.slice A' (stE E x).length c'), .bool (!(lk E x).isSome)]) ∧
      w'.ownsRow m' 78 68 (.slice A' (stE E x).length c') (stE E x).length (qrow (stE E x)) ∧ Below w.heap.size w w' := by
  subst hn
  obtain ⟨ol, hol⟩ : ∃ l, kcells (oldK x).1 = l := ⟨_, rfl⟩
  obtain ⟨nl, hnl⟩ : ∃ l, kcells (nowK x).1 = l := ⟨_, rfl⟩
  have kx : kv (oldK x) = .agg ol.toArray := by rw [← hol]; rfl
  have ky : kv (nowK x) = .agg nl.toArray := by rw [← hnl]; rfl
  have s1 := size26_ (oldK x)
  have s2 := size26_ (nowK x)
  rw [hol] at s1
  rw [hnl] at s2
  rw [kx, ky]
  have hw1 := ((Below.refl w.heap.size w).alloc (Nat.le_refl _) (.cells (tcells base most budget (.slice A E.length c)) 48))
  obtain ⟨a1, ha1⟩ : ∃ a, a = w.alloc (.cells (tcells base most budget (.slice A E.length c)) 48) := ⟨_, rfl⟩
  obtain ⟨a2, ha2⟩ : ∃ a, a = a1.alloc (.cells ol.toArray 26) := ⟨_, rfl⟩
  obtain ⟨a3, ha3⟩ : ∃ a, a = a2.alloc (.cells nl.toArray 26) := ⟨_, rfl⟩
  obtain ⟨W, hW⟩ : ∃ a, a = a3.alloc (.cells (tcells 0 0 0 (.slice none 0 0)) 48) := ⟨_, rfl⟩
  obtain ⟨ga, hga⟩ : ∃ ga, ga = w.heap.size := ⟨_, rfl⟩
  have z1 : a1.heap.size = ga + 1 := by rw [ha1, hga]; simp
  have z2 : a2.heap.size = ga + 2 := by rw [ha2]; simp [z1]
  have z3 : a3.heap.size = ga + 3 := by rw [ha3]; simp [z2]
  have z4 : W.heap.size = ga + 4 := by rw [hW]; simp [z3]
  have u0 : Blk a1 ga 48 (tcells base most budget (.slice A E.length c)) := by rw [ha1, hga]; exact Blk.new w 48 _
  have u1 : Blk a2 (ga + 1) 26 ol.toArray := by rw [ha2, ← z1]; exact Blk.new a1 26 _
  have u2 : Blk a3 (ga + 2) 26 nl.toArray := by rw [ha3, ← z2]; exact Blk.new a2 26 _
  have t3 : Blk W (ga + 3) 48 (tcells 0 0 0 (.slice none 0 0)) := by rw [hW, ← z3]; exact Blk.new a3 48 _
  have t0 : Blk W ga 48 (tcells base most budget (.slice A E.length c)) := by rw [hW, ha3, ha2]; exact ((u0.alloc _).alloc _).alloc _
  have t1 : Blk W (ga + 1) 26 ol.toArray := by rw [hW, ha3]; exact (u1.alloc _).alloc _
  have t2 : Blk W (ga + 2) 26 nl.toArray := by rw [hW]; exact u2.alloc _
  have hl : Below w.heap.size w W := by
    rw [hW, ha3, ha2, ha1]
    refine Below.alloc (Below.alloc (Below.alloc hw1 ?_ _) ?_ _) ?_ _ <;> simp <;> omega
  have hr := h.kept (grown_below hl none) (own_ne fun k e => by cases e)
  have hh := rhas_any base most budget A E.length c m0 E x W hr rfl hm
  rw [kx, ky] at hh
  have ew : W = (((w.alloc (.cells #[.int .i64 base, .int .i64 most, .int .i64 budget, .slice A E.length c] 48)).alloc (.cells ol.toArray 26)).alloc (.cells nl.toArray 26)).alloc (.cells #[.int .i64 0, .int .i64 0, .int .i64 0, .slice none 0 0] 48) := by
    rw [hW, ha3, ha2, ha1]; rfl
  have HH := Lib.hid hh
  have HR := Lib.hid hr
  have T0 := Lib.hid t0
  have T1 := Lib.hid t1
  have T2 := Lib.hid t2
  have T3 := Lib.hid t3
  have HL := Lib.hid hl
  have HWq := Lib.hid ew
  have HGq := Lib.hid hga
  have HOL := Lib.hid hol
  have HNL := Lib.hid hnl
  have S1 := Lib.hid s1
  have S2 := Lib.hid s2
  unfold tv
  clear h hh hr u0 u1 u2 t0 t1 t2 t3 hl hw1 hW ha1 ha2 ha3 z1 z2 z3 z4 ew hga kx ky s1 s2 hol hnl a1 a2 a3
  cases hq : (lk E x).isSome with
  | true =>
    have hst : stE E x = E := by unfold stE; rw [if_pos hq]
    rw [hst]
    rw [hq] at HH
    clear hst
    have HQ := Lib.hid hq
    clear hq
    go_enter Try.func16, Try.ntmps16
    go_wp2_with (first
      | (refine wpList_load_range 26 (.tmp 4) (w.heap.size + 1) 0 ol.toArray _ rfl rfl rfl Try.underlying26 rfl (by simpa using S1.out) (by rw [← HWq.out, ← HGq.out]; exact T1.out.range) ?_)
      | (refine wpList_load_range 26 (.tmp 5) (w.heap.size + 2) 0 nl.toArray _ rfl rfl rfl Try.underlying26 rfl (by simpa using S2.out) (by rw [← HWq.out, ← HGq.out]; exact T2.out.range) ?_))
    rw [← HWq.out, ← HGq.out]
    refine HH.out.mono ?_
    rintro e w1 ⟨rfl, hB1⟩
    have t0' := T0.out.below hB1.below T0.out.lt
    have t3' := T3.out.below hB1.below T3.out.lt
    have hr' := HR.out.kept (grown_below hB1.below none) (own_ne fun k e => by cases e)
    have hl' := HL.out.trans (hB1.below.mono HL.out.size)
    have TS := Lib.hid t0'
    have T3' := Lib.hid t3'
    have HR' := Lib.hid hr'
    have HL' := Lib.hid hl'
    clear t0' t3' hr' hl' hB1 HH HR HL T0 T1 T2 T3
    go_wp2_with (first
      | (refine wpList_load_range 48 (.tmp 3) ga 0 (tcells base most budget (.slice A E.length c)) _ rfl rfl rfl Try.underlying48 rfl (size48 _ _ _ _) TS.out.range ?_)
      | (refine wpList_store_blk 48 (.tmp 6) (.tmp 18) (ga + 3) (tcells 0 0 0 (.slice none 0 0)) (tcells base most budget (.slice A E.length c)) rfl rfl rfl rfl (size48 _ _ _ _) T3'.out rfl (tcells_ones _ _ _ _ _ _) ?_))
    intro v0 kb0 kg0 _
    have hr2 := HR'.out.kept kg0 (.inr (own_blk_ne HR'.out T3'.out (by decide)))
    have hl2 := HL'.out.grown kg0 HL'.out.size (fun k e => by injection e with e; have := HGq.out; omega)
    have HK := Lib.hid kb0
    have HR2 := Lib.hid hr2
    have HL2 := Lib.hid hl2
    clear kb0 kg0 hr2 hl2 HR' HL' T3' TS
    go_wp2_with fail
    refine bodyPost_ret (results_t rfl rfl rfl HK.out rfl) rfl ?_
    exact ⟨A, c, m0, rfl, HR2.out, HL2.out⟩
  | false =>
    have hst : stE E x = ins x (0, 1) E := by unfold stE; rw [if_neg (by rw [hq]; decide)]
    rw [hst]
    rw [hq] at HH
    clear hst
    have HQ := Lib.hid hq
    clear hq
    obtain ⟨z78, hzs, hzv⟩ := zero_agg zinfo78 (by decide)
    obtain ⟨ql, hql⟩ : ∃ l, encQ (x, (0, 1)) = l := ⟨_, rfl⟩
    have hs68 : ql.toArray.size = 68 := by rw [← hql]; simpa using encQ_length (x, (0, 1))
    have hqv : qv (x, (0, 1)) = .agg ql.toArray := by rw [← hql]; rfl
    have hones : ∀ v ∈ ql.toArray.toList, v.oneCell' = true := by rw [← hql]; simpa using encQ_ones (x, (0, 1))
    have hsz : (Try.prog.info? 78).map (·.size) = some ql.toArray.size := by rw [← hql]; simpa using size78_ (x, (0, 1))
    have HQL := Lib.hid hql
    have HQV := Lib.hid hqv
    have HON := Lib.hid hones
    have HSZ := Lib.hid hsz
    have HS68 := Lib.hid hs68
    clear hql hqv hones hsz hs68
    go_enter Try.func16, Try.ntmps16
    go_wp2_with (first
      | (refine wpList_load_range 26 (.tmp 4) (w.heap.size + 1) 0 ol.toArray _ rfl rfl rfl Try.underlying26 rfl (by simpa using S1.out) (by rw [← HWq.out, ← HGq.out]; exact T1.out.range) ?_)
      | (refine wpList_load_range 26 (.tmp 5) (w.heap.size + 2) 0 nl.toArray _ rfl rfl rfl Try.underlying26 rfl (by simpa using S2.out) (by rw [← HWq.out, ← HGq.out]; exact T2.out.range) ?_))
    rw [← HWq.out, ← HGq.out]
    refine HH.out.mono ?_
    rintro e w1 ⟨rfl, hB1⟩
    have hgs : ga + 3 < w1.heap.size := (T3.out.below hB1.below T3.out.lt).lt
    have T0' := Lib.hid (T0.out.below hB1.below T0.out.lt)
    have T1' := Lib.hid (T1.out.below hB1.below T1.out.lt)
    have T2' := Lib.hid (T2.out.below hB1.below T2.out.lt)
    have T3' := Lib.hid (T3.out.below hB1.below T3.out.lt)
    have HR' := Lib.hid (HR.out.kept (grown_below hB1.below none) (own_ne fun k e => by cases e))
    have HL' := Lib.hid (HL.out.trans (hB1.below.mono HL.out.size))
    clear hB1 HH HR HL T0 T1 T2 T3
    go_wp2_with (first
      | (refine wpList_load_range 26 (.tmp 4) (ga + 1) 0 ol.toArray _ rfl rfl rfl Try.underlying26 rfl (by simpa using S1.out) T1'.out.range ?_)
      | (refine wpList_load_range 26 (.tmp 5) (ga + 2) 0 nl.toArray _ rfl rfl rfl Try.underlying26 rfl (by simpa using S2.out) T2'.out.range ?_)
      | (refine wpList_build_q (.tmp 19) (.tmp 20) x rfl rfl (by rw [HOL.out]; rfl) (by rw [HNL.out]; rfl) ?_; rw [HQV.out])
      | (refine wpList_store_blk 78 (.tmp 9) (.tmp 21) w1.heap.size _ ql.toArray rfl rfl rfl rfl HSZ.out (Blk.new _ _ _) (by rw [HS68.out, hzs]) HON.out ?_))
    intro v0 kb0 kg0 _
    have hBv : Below w1.heap.size w1 v0 := (((Below.refl _ w1).alloc (Nat.le_refl _) _).grown kg0 (by simp) (fun j e => by injection e with e; omega))
    have HT0 := Lib.hid (T0'.out.below hBv T0'.out.lt)
    have HT3 := Lib.hid (T3'.out.below hBv T3'.out.lt)
    have HR1 := Lib.hid (HR'.out.kept (grown_below hBv none) (own_ne fun k e => by cases e))
    have HL1 := Lib.hid (HL'.out.trans (hBv.mono HL'.out.size))
    obtain ⟨gq, hgq⟩ : ∃ gq, gq = w1.heap.size := ⟨_, rfl⟩
    rw [← hgq] at kb0 hgs ⊢
    have HKQ := Lib.hid kb0
    clear kb0 kg0 hBv hgq hzv hzs T0' T1' T2' T3' HR' HL' HOL HNL S1 S2
    go_wp2_with fail
    go_loopw [10, 11, 12] (fun lv dv iv wr => ∃ (i : Nat) (dn : Bool) (L : En), i ≤ E.length ∧ iv = .int .i64 i ∧ dv = .bool dn ∧ InsAt x E i dn L ∧ QR v0 wr lv L)
      (fun _ _ iv _ => E.length - (intOf iv).toNat)
    case atStart => exact ⟨0, false, [], Nat.zero_le _, rfl, rfl, InsAt.zero, QR.nil _ _ (Below.refl _ _)⟩
    case round =>
      obtain ⟨i, dn, L, hi, rfl, rfl, hins, hqr⟩ := hrel
      have t0w := HT0.out.below hqr.below HT0.out.lt
      have hcs : wr.cell? ⟨ga, 3, none⟩ = some (.slice A E.length c) := t0w.cell 3
      by_cases hlt : i < E.length
      · obtain ⟨kb, rfl, hkb, hrq⟩ := qrow_at HR1.out rfl hlt
        have hLm : L.length ≤ 1000000 := by have := hins.length; omega
        obtain ⟨p, hp⟩ : ∃ p, E.getD i default = p := ⟨_, rfl⟩
        rw [hp] at hrq
        obtain ⟨pl, hpl⟩ : ∃ l, encQ p = l := ⟨_, rfl⟩
        have hpv : qv p = .agg pl.toArray := by rw [← hpl]; rfl
        have hsp := size78_ p
        rw [hpl] at hrq hsp
        have hsq : (Try.prog.info? 78).map (·.size) = some ql.length := by simpa using HSZ.out
        have hu78 := Try.underlying78
        have HC := fun w' => Lib.hid (qless_any (x, (0, 1)) p w')
        simp only [HQV.out, hpv] at HC
        have SG : Hid (∀ w', Below wr.heap.size wr w' → w'.cell? ⟨ga, 3, none⟩ = some (.slice (some ⟨kb, 0, none⟩) E.length c) ∧ w'.rangeAt gq 0 ql ∧ w'.rangeAt kb (i * 68) pl) := fun w' hw' => by
          have hb : Below v0.heap.size v0 w' := hqr.below.trans (hw'.mono hqr.below.size)
          exact ⟨(HT0.out.below hb HT0.out.lt).cell 3, by simpa using (HKQ.out.below hb HKQ.out.lt).range, range_below hrq hb hkb⟩
        have HPL := Lib.hid hpl
        have HSP := Lib.hid hsp
        have HP := Lib.hid hp
        have HQR := Lib.hid hqr
        have HIN := Lib.hid hins
        clear t0w hqr hins hp hpl hpv
        cases dn with
        | true =>
          have HI2 := Lib.hid (HIN.out.more hlt)
          rw [HP.out] at HI2
          go_wp2_with fail
          clear hcs
          refine wp_region_held_drew (S := (fun w' => Below wr.heap.size wr w')) (by kernel_rfl) (below_dr (Below.refl _ _)) (fun hHeld => ?_)
          refine wpAnyH_take (i := 0) (v := .bool true) rfl (by kernel_rfl) (by kernel_rfl) (by kernel_rfl) (fun _ _ _ h => h) (Or.inl ⟨by rfl, fun w' hw' => by go_simp⟩) hHeld ?_
          try simp only [Act.put, List.getElem_toArray, List.getElem_cons_succ, List.getElem_cons_zero, List.setIfInBounds_toArray, List.set_cons_zero, List.set_cons_succ]
          refine wpAnyH_take (i := 1) (v := .bool false) rfl (by kernel_rfl) (by kernel_rfl) (by kernel_rfl) (fun _ _ _ h => h) (Or.inl ⟨by rfl, fun w' hw' => by go_simp⟩) hHeld ?_
          try simp only [Act.put, List.getElem_toArray, List.getElem_cons_succ, List.getElem_cons_zero, List.setIfInBounds_toArray, List.set_cons_zero, List.set_cons_succ]
          refine wpAnyH_take (i := 2) (v := .bool false) rfl (by kernel_rfl) (by kernel_rfl) (by kernel_rfl) (fun _ _ _ h => h) (Or.inl ⟨by rfl, fun w' hw' => by go_simp⟩) hHeld ?_
          try simp only [Act.put, List.getElem_toArray, List.getElem_cons_succ, List.getElem_cons_zero, List.setIfInBounds_toArray, List.set_cons_zero, List.set_cons_succ]
          refine wpAnyH_take (i := 3) (v := undef) rfl (by kernel_rfl) (by kernel_rfl) (by kernel_rfl) (fun _ _ _ h => h) (Or.inr ⟨by rfl, rfl⟩) hHeld ?_
          try simp only [Act.put, List.getElem_toArray, List.getElem_cons_succ, List.getElem_cons_zero, List.setIfInBounds_toArray, List.set_cons_zero, List.set_cons_succ]
          refine wpAnyH_take (i := 4) (v := undef) rfl (by kernel_rfl) (by kernel_rfl) (by kernel_rfl) (fun _ _ _ h => h) (Or.inr ⟨by rfl, rfl⟩) hHeld ?_
          try simp only [Act.put, List.getElem_toArray, List.getElem_cons_succ, List.getElem_cons_zero, List.setIfInBounds_toArray, List.set_cons_zero, List.set_cons_succ]
          refine wpAnyH_take (i := 5) (v := undef) rfl (by kernel_rfl) (by kernel_rfl) (by kernel_rfl) (fun _ _ _ h => h) (Or.inr ⟨by rfl, rfl⟩) hHeld ?_
          try simp only [Act.put, List.getElem_toArray, List.getElem_cons_succ, List.getElem_cons_zero, List.setIfInBounds_toArray, List.set_cons_zero, List.set_cons_succ]
          refine wpAnyH_take (i := 6) (v := undef) rfl (by kernel_rfl) (by kernel_rfl) (by kernel_rfl) (fun _ _ _ h => h) (Or.inr ⟨by rfl, rfl⟩) hHeld ?_
          try simp only [Act.put, List.getElem_toArray, List.getElem_cons_succ, List.getElem_cons_zero, List.setIfInBounds_toArray, List.set_cons_zero, List.set_cons_succ]
          refine wpAnyH_take (i := 7) (v := undef) rfl (by kernel_rfl) (by kernel_rfl) (by kernel_rfl) (fun _ _ _ h => h) (Or.inr ⟨by rfl, rfl⟩) hHeld ?_
          try simp only [Act.put, List.getElem_toArray, List.getElem_cons_succ, List.getElem_cons_zero, List.setIfInBounds_toArray, List.set_cons_zero, List.set_cons_succ]
          refine wpAnyH_take (i := 8) (v := undef) rfl (by kernel_rfl) (by kernel_rfl) (by kernel_rfl) (fun _ _ _ h => h) (Or.inr ⟨by rfl, rfl⟩) hHeld ?_
          try simp only [Act.put, List.getElem_toArray, List.getElem_cons_succ, List.getElem_cons_zero, List.setIfInBounds_toArray, List.set_cons_zero, List.set_cons_succ]
          refine wpAnyH_take (i := 9) (v := undef) rfl (by kernel_rfl) (by kernel_rfl) (by kernel_rfl) (fun _ _ _ h => h) (Or.inr ⟨by rfl, rfl⟩) hHeld ?_
          try simp only [Act.put, List.getElem_toArray, List.getElem_cons_succ, List.getElem_cons_zero, List.setIfInBounds_toArray, List.set_cons_zero, List.set_cons_succ]
          refine wpAnyH_take (i := 10) (v := .bool false) rfl (by kernel_rfl) (by kernel_rfl) (by kernel_rfl) (fun _ _ _ h => h) (Or.inl ⟨by rfl, fun w' hw' => by go_simp⟩) hHeld ?_
          try simp only [Act.put, List.getElem_toArray, List.getElem_cons_succ, List.getElem_cons_zero, List.setIfInBounds_toArray, List.set_cons_zero, List.set_cons_succ]
          refine wpAnyH_done (by kernel_rfl) ?_ _
          clear hsq hu78 hsp
          have HQ5 := Lib.hid (HQR.out.below_ hHeld)
          clear hHeld HQR SG HC
          have HRP := Lib.hid (range_below hrq HQ5.out.below hkb)
          have hcs := (HT0.out.below HQ5.out.below HT0.out.lt).cell 3
          simp only [tcells] at hcs
          go_wp2_with (first | (refine wpList_load_range 78 (.tmp 48) kb (i * 68) pl.toArray _ rfl rfl rfl Try.underlying78 rfl (by simpa using HSP.out) HRP.out ?_) | (refine wpList_push (.tmp 49) (.tmp 44) 50 rfl rfl rfl rfl rfl pl HPL.out rfl rfl rfl HQ5.out hLm ?_))
          intro v9 w9 hq9
          have HX := Lib.hid hq9
          clear hq9 hcs HRP
          go_wp2_with fail
          go_roundw
          case rel => exact ⟨i + 1, true, _, by omega, by go_num, rfl, (by simpa using HI2.out), HX.out⟩
          case measure => first | (simp [intOf]; done) | (simp [intOf]; omega)
        | false =>
          cases hless : lessW x.1 p.1.1 with
          | true =>
            have HI2 := Lib.hid (HIN.out.here hlt (by rw [HP.out]; exact hless))
            rw [HP.out] at HI2
            simp only [hless] at HC
            clear hless
            go_wp2_with fail
            clear hcs
            refine wp_region_held_drew (S := (fun w' => Below wr.heap.size wr w')) (by kernel_rfl) (below_dr (Below.refl _ _)) (fun hHeld => ?_)
            refine wpAnyH_take (i := 0) (v := .bool false) rfl (by kernel_rfl) (by kernel_rfl) (by kernel_rfl) (fun _ _ _ h => h) (Or.inl ⟨by rfl, fun w' hw' => by go_simp⟩) hHeld ?_
            try simp only [Act.put, List.getElem_toArray, List.getElem_cons_succ, List.getElem_cons_zero, List.setIfInBounds_toArray, List.set_cons_zero, List.set_cons_succ]
            refine wpAnyH_take (i := 1) (v := .bool true) rfl (by kernel_rfl) (by kernel_rfl) (by kernel_rfl) (fun _ _ _ h => h) (Or.inl ⟨by rfl, fun w' hw' => by go_simp⟩) hHeld ?_
            try simp only [Act.put, List.getElem_toArray, List.getElem_cons_succ, List.getElem_cons_zero, List.setIfInBounds_toArray, List.set_cons_zero, List.set_cons_succ]
            refine wpAnyH_take (i := 2) (v := .bool true) rfl (by kernel_rfl) (by kernel_rfl) (by kernel_rfl) (fun _ _ _ h => h) (Or.inl ⟨by rfl, fun w' hw' => by go_simp⟩) hHeld ?_
            try simp only [Act.put, List.getElem_toArray, List.getElem_cons_succ, List.getElem_cons_zero, List.setIfInBounds_toArray, List.set_cons_zero, List.set_cons_succ]
            refine wpAnyH_take (i := 3) (v := .agg ql.toArray) rfl (by kernel_rfl) (by kernel_rfl) (by kernel_rfl) (fun _ _ _ h => h) (Or.inl ⟨by rfl, fun w' hw' => by exact exec_load rfl rfl (run_loadAt_mid w' gq 0 78 ql _ (SG.out w' hw').2.1 hu78 rfl hsq)⟩) hHeld ?_
            try simp only [Act.put, List.getElem_toArray, List.getElem_cons_succ, List.getElem_cons_zero, List.setIfInBounds_toArray, List.set_cons_zero, List.set_cons_succ]
            refine wpAnyH_take (i := 4) (v := .pointer (some ⟨ga, 3, none⟩)) rfl (by kernel_rfl) (by kernel_rfl) (by kernel_rfl) (fun _ _ _ h => h) (Or.inl ⟨by rfl, fun w' hw' => by go_simp⟩) hHeld ?_
            try simp only [Act.put, List.getElem_toArray, List.getElem_cons_succ, List.getElem_cons_zero, List.setIfInBounds_toArray, List.set_cons_zero, List.set_cons_succ]
            refine wpAnyH_take (i := 5) (v := .slice (some ⟨kb, 0, none⟩) E.length c) rfl (by kernel_rfl) (by kernel_rfl) (by kernel_rfl) (fun _ _ _ h => h) (Or.inl ⟨by rfl, fun w' hw' => by have hc := (SG.out w' hw').1; go_simp⟩) hHeld ?_
            try simp only [Act.put, List.getElem_toArray, List.getElem_cons_succ, List.getElem_cons_zero, List.setIfInBounds_toArray, List.set_cons_zero, List.set_cons_succ]
            refine wpAnyH_take (i := 6) (v := .int .i64 i) rfl (by kernel_rfl) (by kernel_rfl) (by kernel_rfl) (fun _ _ _ h => h) (Or.inl ⟨by rfl, fun w' hw' => by go_simp⟩) hHeld ?_
            try simp only [Act.put, List.getElem_toArray, List.getElem_cons_succ, List.getElem_cons_zero, List.setIfInBounds_toArray, List.set_cons_zero, List.set_cons_succ]
            refine wpAnyH_take (i := 7) (v := .pointer (some ⟨kb, i * 68, none⟩)) rfl (by kernel_rfl) (by kernel_rfl) (by kernel_rfl) (fun _ _ _ h => h) (Or.inl ⟨by rfl, fun w' hw' => by go_simp⟩) hHeld ?_
            try simp only [Act.put, List.getElem_toArray, List.getElem_cons_succ, List.getElem_cons_zero, List.setIfInBounds_toArray, List.set_cons_zero, List.set_cons_succ]
            refine wpAnyH_take (i := 8) (v := .agg pl.toArray) rfl (by kernel_rfl) (by kernel_rfl) (by kernel_rfl) (fun _ _ _ h => h) (Or.inl ⟨by rfl, fun w' hw' => by exact exec_load rfl rfl (run_loadAt_mid w' kb (i * 68) 78 pl _ (SG.out w' hw').2.2 hu78 rfl hsp)⟩) hHeld ?_
            try simp only [Act.put, List.getElem_toArray, List.getElem_cons_succ, List.getElem_cons_zero, List.setIfInBounds_toArray, List.set_cons_zero, List.set_cons_succ]
            refine wpAnyH_ready (rs := [9]) (by kernel_rfl) (by simp) ?_
            refine AllReadyH.cons rfl (fun K hK => ?_) AllReadyH.nil
            go_simp
            refine (HC _).out.mono ?_
            rintro e w4 ⟨rfl, hB4⟩
            have hC4 : Below wr.heap.size wr w4 := hHeld.trans (hB4.below.mono hHeld.size)
            clear hB4
            refine hK.out _ _ hC4 (fun hHeld => ?_)
            clear hK K
            try simp only [Act.put, List.getElem_toArray, List.getElem_cons_succ, List.getElem_cons_zero, List.setIfInBounds_toArray, List.set_cons_zero, List.set_cons_succ]
            refine wpAnyH_take (i := 10) (v := .bool true) rfl (by kernel_rfl) (by kernel_rfl) (by kernel_rfl) (fun _ _ _ h => h) (Or.inl ⟨by rfl, fun w' hw' => by go_simp⟩) hHeld ?_
            try simp only [Act.put, List.getElem_toArray, List.getElem_cons_succ, List.getElem_cons_zero, List.setIfInBounds_toArray, List.set_cons_zero, List.set_cons_succ]
            refine wpAnyH_done (by kernel_rfl) ?_ _
            clear hsq hu78 hsp
            have HQ5 := Lib.hid (HQR.out.below_ hHeld)
            have HRQ := Lib.hid (HKQ.out.below HQ5.out.below HKQ.out.lt).range
            clear hHeld HQR SG HC
            go_wp2_with (first | (refine wpList_load_range 78 (.tmp 9) gq 0 ql.toArray _ rfl rfl rfl Try.underlying78 rfl HSZ.out HRQ.out ?_) | (refine wpList_push (.tmp 41) (.tmp 40) 42 rfl rfl rfl rfl rfl ql HQL.out rfl rfl rfl HQ5.out hLm ?_))
            intro v8 w8 hq8
            have HQ8 := Lib.hid hq8
            have hLm : (L ++ [(x, (0, 1))]).length ≤ 1000000 := by have := HIN.out.length; simp; omega
            clear hq8 HQ5 HRQ
            have HRP := Lib.hid (range_below hrq HQ8.out.below hkb)
            have hcs := (HT0.out.below HQ8.out.below HT0.out.lt).cell 3
            simp only [tcells] at hcs
            go_wp2_with (first | (refine wpList_load_range 78 (.tmp 48) kb (i * 68) pl.toArray _ rfl rfl rfl Try.underlying78 rfl (by simpa using HSP.out) HRP.out ?_) | (refine wpList_push (.tmp 49) (.tmp 44) 50 rfl rfl rfl rfl rfl pl HPL.out rfl rfl rfl HQ8.out hLm ?_))
            intro v9 w9 hq9
            have HX := Lib.hid hq9
            clear hq9 hcs HRP
            go_wp2_with fail
            go_roundw
            case rel => exact ⟨i + 1, true, _, by omega, by go_num, rfl, (by simpa using HI2.out), HX.out⟩
            case measure => first | (simp [intOf]; done) | (simp [intOf]; omega)
          | false =>
            have HI2 := Lib.hid (HIN.out.past hlt (by rw [HP.out]; exact hless))
            rw [HP.out] at HI2
            simp only [hless] at HC
            clear hless
            go_wp2_with fail
            clear hcs
            refine wp_region_held_drew (S := (fun w' => Below wr.heap.size wr w')) (by kernel_rfl) (below_dr (Below.refl _ _)) (fun hHeld => ?_)
            refine wpAnyH_take (i := 0) (v := .bool false) rfl (by kernel_rfl) (by kernel_rfl) (by kernel_rfl) (fun _ _ _ h => h) (Or.inl ⟨by rfl, fun w' hw' => by go_simp⟩) hHeld ?_
            try simp only [Act.put, List.getElem_toArray, List.getElem_cons_succ, List.getElem_cons_zero, List.setIfInBounds_toArray, List.set_cons_zero, List.set_cons_succ]
            refine wpAnyH_take (i := 1) (v := .bool true) rfl (by kernel_rfl) (by kernel_rfl) (by kernel_rfl) (fun _ _ _ h => h) (Or.inl ⟨by rfl, fun w' hw' => by go_simp⟩) hHeld ?_
            try simp only [Act.put, List.getElem_toArray, List.getElem_cons_succ, List.getElem_cons_zero, List.setIfInBounds_toArray, List.set_cons_zero, List.set_cons_succ]
            refine wpAnyH_take (i := 2) (v := .bool true) rfl (by kernel_rfl) (by kernel_rfl) (by kernel_rfl) (fun _ _ _ h => h) (Or.inl ⟨by rfl, fun w' hw' => by go_simp⟩) hHeld ?_
            try simp only [Act.put, List.getElem_toArray, List.getElem_cons_succ, List.getElem_cons_zero, List.setIfInBounds_toArray, List.set_cons_zero, List.set_cons_succ]
            refine wpAnyH_take (i := 3) (v := .agg ql.toArray) rfl (by kernel_rfl) (by kernel_rfl) (by kernel_rfl) (fun _ _ _ h => h) (Or.inl ⟨by rfl, fun w' hw' => by exact exec_load rfl rfl (run_loadAt_mid w' gq 0 78 ql _ (SG.out w' hw').2.1 hu78 rfl hsq)⟩) hHeld ?_
            try simp only [Act.put, List.getElem_toArray, List.getElem_cons_succ, List.getElem_cons_zero, List.setIfInBounds_toArray, List.set_cons_zero, List.set_cons_succ]
            refine wpAnyH_take (i := 4) (v := .pointer (some ⟨ga, 3, none⟩)) rfl (by kernel_rfl) (by kernel_rfl) (by kernel_rfl) (fun _ _ _ h => h) (Or.inl ⟨by rfl, fun w' hw' => by go_simp⟩) hHeld ?_
            try simp only [Act.put, List.getElem_toArray, List.getElem_cons_succ, List.getElem_cons_zero, List.setIfInBounds_toArray, List.set_cons_zero, List.set_cons_succ]
            refine wpAnyH_take (i := 5) (v := .slice (some ⟨kb, 0, none⟩) E.length c) rfl (by kernel_rfl) (by kernel_rfl) (by kernel_rfl) (fun _ _ _ h => h) (Or.inl ⟨by rfl, fun w' hw' => by have hc := (SG.out w' hw').1; go_simp⟩) hHeld ?_
            try simp only [Act.put, List.getElem_toArray, List.getElem_cons_succ, List.getElem_cons_zero, List.setIfInBounds_toArray, List.set_cons_zero, List.set_cons_succ]
            refine wpAnyH_take (i := 6) (v := .int .i64 i) rfl (by kernel_rfl) (by kernel_rfl) (by kernel_rfl) (fun _ _ _ h => h) (Or.inl ⟨by rfl, fun w' hw' => by go_simp⟩) hHeld ?_
            try simp only [Act.put, List.getElem_toArray, List.getElem_cons_succ, List.getElem_cons_zero, List.setIfInBounds_toArray, List.set_cons_zero, List.set_cons_succ]
            refine wpAnyH_take (i := 7) (v := .pointer (some ⟨kb, i * 68, none⟩)) rfl (by kernel_rfl) (by kernel_rfl) (by kernel_rfl) (fun _ _ _ h => h) (Or.inl ⟨by rfl, fun w' hw' => by go_simp⟩) hHeld ?_
            try simp only [Act.put, List.getElem_toArray, List.getElem_cons_succ, List.getElem_cons_zero, List.setIfInBounds_toArray, List.set_cons_zero, List.set_cons_succ]
            refine wpAnyH_take (i := 8) (v := .agg pl.toArray) rfl (by kernel_rfl) (by kernel_rfl) (by kernel_rfl) (fun _ _ _ h => h) (Or.inl ⟨by rfl, fun w' hw' => by exact exec_load rfl rfl (run_loadAt_mid w' kb (i * 68) 78 pl _ (SG.out w' hw').2.2 hu78 rfl hsp)⟩) hHeld ?_
            try simp only [Act.put, List.getElem_toArray, List.getElem_cons_succ, List.getElem_cons_zero, List.setIfInBounds_toArray, List.set_cons_zero, List.set_cons_succ]
            refine wpAnyH_ready (rs := [9]) (by kernel_rfl) (by simp) ?_
            refine AllReadyH.cons rfl (fun K hK => ?_) AllReadyH.nil
            go_simp
            refine (HC _).out.mono ?_
            rintro e w4 ⟨rfl, hB4⟩
            have hC4 : Below wr.heap.size wr w4 := hHeld.trans (hB4.below.mono hHeld.size)
            clear hB4
            refine hK.out _ _ hC4 (fun hHeld => ?_)
            clear hK K
            try simp only [Act.put, List.getElem_toArray, List.getElem_cons_succ, List.getElem_cons_zero, List.setIfInBounds_toArray, List.set_cons_zero, List.set_cons_succ]
            refine wpAnyH_take (i := 10) (v := .bool false) rfl (by kernel_rfl) (by kernel_rfl) (by kernel_rfl) (fun _ _ _ h => h) (Or.inl ⟨by rfl, fun w' hw' => by go_simp⟩) hHeld ?_
            try simp only [Act.put, List.getElem_toArray, List.getElem_cons_succ, List.getElem_cons_zero, List.setIfInBounds_toArray, List.set_cons_zero, List.set_cons_succ]
            refine wpAnyH_done (by kernel_rfl) ?_ _
            clear hsq hu78 hsp
            have HQ5 := Lib.hid (HQR.out.below_ hHeld)
            clear hHeld HQR SG HC
            have HRP := Lib.hid (range_below hrq HQ5.out.below hkb)
            have hcs := (HT0.out.below HQ5.out.below HT0.out.lt).cell 3
            simp only [tcells] at hcs
            go_wp2_with (first | (refine wpList_load_range 78 (.tmp 48) kb (i * 68) pl.toArray _ rfl rfl rfl Try.underlying78 rfl (by simpa using HSP.out) HRP.out ?_) | (refine wpList_push (.tmp 49) (.tmp 44) 50 rfl rfl rfl rfl rfl pl HPL.out rfl rfl rfl HQ5.out hLm ?_))
            intro v9 w9 hq9
            have HX := Lib.hid hq9
            clear hq9 hcs HRP
            go_wp2_with fail
            go_roundw
            case rel => exact ⟨i + 1, false, _, by omega, by go_num, rfl, (by simpa using HI2.out), HX.out⟩
            case measure => first | (simp [intOf]; done) | (simp [intOf]; omega)
      · obtain rfl : i = E.length := by omega
        have hL := hins.length
        have HIN := Lib.hid hins
        have HQR := Lib.hid hqr
        have HRQ := Lib.hid (HKQ.out.below hqr.below HKQ.out.lt).range
        have hLm : L.length ≤ 1000000 := by omega
        have hgn : ga + 3 ≠ ga := by omega
        clear t0w hqr hins hL
        cases dn with
        | false =>
          have he := HIN.out.last
          have HE := Lib.hid he
          clear he
          go_wp2_with (first | (refine wpList_load_range 78 (.tmp 9) gq 0 ql.toArray _ rfl rfl rfl Try.underlying78 rfl HSZ.out HRQ.out ?_) | (refine wpList_push (.tmp 55) (.tmp 54) 56 rfl rfl rfl rfl rfl ql HQL.out rfl rfl rfl HQR.out hLm ?_))
          intro v8 w8 hq8
          clear hcs HQR HRQ
          obtain ⟨A2, c2, rfl⟩ := qrow_own_slice hq8.own
          rw [HE.out] at hq8 ⊢
          have t0f := HT0.out.below hq8.below HT0.out.lt
          have t3f := HT3.out.below hq8.below HT3.out.lt
          have hcs := t0f.cell 3
          simp only [tcells] at hcs
          have hfz := t0f.frozen 3
          have t0s := tset (v' := .slice A2 (ins x (0, 1) E).length c2) t0f
          have hgs2 : w8.grownBy (w8.setCell ⟨ga, 3, none⟩ (.slice A2 (ins x (0, 1) E).length c2)) (some ga) := ⟨rfl, rfl, rfl, by simp, fun k _ hk => Below.heap_setCell w8 _ _ k (fun e => hk (by rw [e]))⟩
          have t3s := t3f.grown hgs2 (fun e => by injection e with e; omega)
          have hrs := hq8.own.kept hgs2 (.inr (own_blk_ne hq8.own t0f (by decide)))
          have hls := (HL1.out.trans (hq8.below.mono HL1.out.size)).grown hgs2 (HL1.out.trans (hq8.below.mono HL1.out.size)).size (fun k e => by injection e with e; have := HGq.out; omega)
          have TS := Lib.hid t0s
          have T3' := Lib.hid t3s
          have HR' := Lib.hid hrs
          have HL' := Lib.hid hls
          clear t0f t3f t0s hgs2 t3s hrs hls hq8
          go_wp2_with (first
            | (refine wpList_load_range 48 (.tmp 3) ga 0 (tcells base most budget (.slice A2 (ins x (0, 1) E).length c2)) _ rfl rfl rfl Try.underlying48 rfl (size48 _ _ _ _) TS.out.range ?_)
            | (refine wpList_store_blk 48 (.tmp 6) (.tmp 60) (ga + 3) (tcells 0 0 0 (.slice none 0 0)) (tcells base most budget (.slice A2 (ins x (0, 1) E).length c2)) rfl rfl rfl rfl (size48 _ _ _ _) T3'.out rfl (tcells_ones _ _ _ _ _ _) ?_))
          intro v7 kb7 kg7 _
          have hr2 := HR'.out.kept kg7 (.inr (own_blk_ne HR'.out T3'.out (by decide)))
          have hl2 := HL'.out.grown kg7 HL'.out.size (fun k e => by injection e with e; have := HGq.out; omega)
          have HK := Lib.hid kb7
          have HR2 := Lib.hid hr2
          have HL2 := Lib.hid hl2
          clear kb7 kg7 hr2 hl2 HR' HL' T3' TS hcs hfz
          go_wp2_with fail
          refine bodyPost_ret (results_t rfl rfl rfl HK.out rfl) rfl ?_
          exact ⟨A2, c2, _, rfl, HR2.out, HL2.out⟩
        | true =>
          have he := HIN.out.all
          have HE := Lib.hid he
          have hq8 := HQR.out
          clear he hcs HQR HRQ
          obtain ⟨A2, c2, rfl⟩ := qrow_own_slice hq8.own
          rw [HE.out] at hq8 ⊢
          have t0f := HT0.out.below hq8.below HT0.out.lt
          have t3f := HT3.out.below hq8.below HT3.out.lt
          have hcs := t0f.cell 3
          simp only [tcells] at hcs
          have hfz := t0f.frozen 3
          have t0s := tset (v' := .slice A2 (ins x (0, 1) E).length c2) t0f
          have hgs2 : wr.grownBy (wr.setCell ⟨ga, 3, none⟩ (.slice A2 (ins x (0, 1) E).length c2)) (some ga) := ⟨rfl, rfl, rfl, by simp, fun k _ hk => Below.heap_setCell wr _ _ k (fun e => hk (by rw [e]))⟩
          have t3s := t3f.grown hgs2 (fun e => by injection e with e; omega)
          have hrs := hq8.own.kept hgs2 (.inr (own_blk_ne hq8.own t0f (by decide)))
          have hls := (HL1.out.trans (hq8.below.mono HL1.out.size)).grown hgs2 (HL1.out.trans (hq8.below.mono HL1.out.size)).size (fun k e => by injection e with e; have := HGq.out; omega)
          have TS := Lib.hid t0s
          have T3' := Lib.hid t3s
          have HR' := Lib.hid hrs
          have HL' := Lib.hid hls
          clear t0f t3f t0s hgs2 t3s hrs hls hq8
          go_wp2_with (first
            | (refine wpList_load_range 48 (.tmp 3) ga 0 (tcells base most budget (.slice A2 (ins x (0, 1) E).length c2)) _ rfl rfl rfl Try.underlying48 rfl (size48 _ _ _ _) TS.out.range ?_)
            | (refine wpList_store_blk 48 (.tmp 6) (.tmp 60) (ga + 3) (tcells 0 0 0 (.slice none 0 0)) (tcells base most budget (.slice A2 (ins x (0, 1) E).length c2)) rfl rfl rfl rfl (size48 _ _ _ _) T3'.out rfl (tcells_ones _ _ _ _ _ _) ?_))
          intro v7 kb7 kg7 _
          have hr2 := HR'.out.kept kg7 (.inr (own_blk_ne HR'.out T3'.out (by decide)))
          have hl2 := HL'.out.grown kg7 HL'.out.size (fun k e => by injection e with e; have := HGq.out; omega)
          have HK := Lib.hid kb7
          have HR2 := Lib.hid hr2
          have HL2 := Lib.hid hl2
          clear kb7 kg7 hr2 hl2 HR' HL' T3' TS hcs hfz
          go_wp2_with fail
          refine bodyPost_ret (results_t rfl rfl rfl HK.out rfl) rfl ?_
          exact ⟨A2, c2, _, rfl, HR2.out, HL2.out⟩
end Go.Proofs.Ythjgmnafbikihaa
