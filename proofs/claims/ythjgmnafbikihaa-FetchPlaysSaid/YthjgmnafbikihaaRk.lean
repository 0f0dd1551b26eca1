/-
  Fetch, the document's answer: Tick.
-/
import Derived.Test.YthjgmnafbikihaaRj
set_option linter.unusedVariables false
set_option linter.unusedSimpArgs false
namespace Go.Proofs.Ythjgmnafbikihaa
open Go.RowKit Go.Maps Go.Sort

theorem pow_bound {base : Int} {k : Nat} (h0 : 1 ≤ base) (h1 : base ≤ 100) (hk : k ≤ 19) : 1 ≤ base * 2 ^ k ∧ base * 2 ^ k ≤ 52428800 := by
  have h2 : (1 : Int) ≤ 2 ^ k := by
    have : (0 : Int) < 2 ^ k := Int.pow_pos (by decide)
    omega
  have h3 : (2 : Int) ^ k ≤ 524288 := by
    have h4 : (2 : Nat) ^ k ≤ 2 ^ 19 := Nat.pow_le_pow_right (by decide) hk
    have h5 : ((2 ^ k : Nat) : Int) ≤ ((2 ^ 19 : Nat) : Int) := by exact_mod_cast h4
    simpa using h5
  refine ⟨?_, ?_⟩
  · calc (1 : Int) = 1 * 1 := rfl
      _ ≤ base * 2 ^ k := Int.mul_le_mul h0 h2 (by decide) (by omega)
  · calc base * 2 ^ k ≤ 100 * 524288 := Int.mul_le_mul h1 h3 (by omega) (by decide)
      _ = 52428800 := rfl
theorem pow_next (base : Int) (k : Nat) : base * 2 ^ k * 2 = base * 2 ^ (k + 1) := by rw [Int.pow_succ, Int.mul_assoc]
set_option maxRecDepth 100000 in
set_option maxHeartbeats 4000000 in
theorem rtick_any (base most budget : Int) (A : Option Addr) (n c m0 : Nat) (E : En) (s : Int) (w : World) (h : w.ownsRow m0 78 68 (.slice A n c) n (qrow E)) (hn : E.length = n) (hm : n ≤ 100000) (hN : newOk base most budget) (hOk : OkE budget E) :
    Calls Try.prog 19 #[tv base most budget (.slice A n c), .int .u64 s] w fun e w' => ∃ A' c' m' A2 c2 B2 d2 AE BE, e = .returned (.tuple #[tv base most budget (.slice A' (tick base most budget E s).P.length c'), .int .u64 (tick base most budget E s).s, .slice A2 AE.length c2, .slice B2 BE.length d2]) ∧
      w'.ownsRow m' 78 68 (.slice A' (tick base most budget E s).P.length c') (tick base most budget E s).P.length (qrow (tick base most budget E s).P) ∧
      w'.ownsRow m' 78 68 (.slice A2 AE.length c2) AE.length (qrow AE) ∧ keysE AE = (tick base most budget E s).asks ∧
      w'.ownsRow m' 78 68 (.slice B2 BE.length d2) BE.length (qrow BE) ∧ keysE BE = (tick base most budget E s).lost ∧ Below w.heap.size w w' := by
  subst hn
  have hw1 := ((Below.refl w.heap.size w).alloc (Nat.le_refl _) (.cells (tcells base most budget (.slice A E.length c)) 48))
  obtain ⟨a1, ha1⟩ : ∃ a, a = w.alloc (.cells (tcells base most budget (.slice A E.length c)) 48) := ⟨_, rfl⟩
  obtain ⟨W, hW⟩ : ∃ a, a = a1.alloc (.cells (tcells 0 0 0 (.slice none 0 0)) 48) := ⟨_, rfl⟩
  obtain ⟨ga, hga⟩ : ∃ ga, ga = w.heap.size := ⟨_, rfl⟩
  have z1 : a1.heap.size = ga + 1 := by rw [ha1, hga]; simp
  have z4 : W.heap.size = ga + 2 := by rw [hW]; simp [z1]
  have u0 : Blk a1 ga 48 (tcells base most budget (.slice A E.length c)) := by rw [ha1, hga]; exact Blk.new w 48 _
  have t3 : Blk W (ga + 1) 48 (tcells 0 0 0 (.slice none 0 0)) := by rw [hW, ← z1]; exact Blk.new a1 48 _
  have t0 : Blk W ga 48 (tcells base most budget (.slice A E.length c)) := by rw [hW]; exact u0.alloc _
  have hl : Below w.heap.size w W := by
    rw [hW, ha1]
    refine Below.alloc hw1 ?_ _
    simp
  have hr := h.kept (grown_below hl none) (own_ne fun k e => by cases e)
  have ew : W = (w.alloc (.cells #[.int .i64 base, .int .i64 most, .int .i64 budget, .slice A E.length c] 48)).alloc (.cells #[.int .i64 0, .int .i64 0, .int .i64 0, .slice none 0 0] 48) := by
    rw [hW, ha1]; rfl
  have HR := Lib.hid hr
  have T0 := Lib.hid t0
  have T3 := Lib.hid t3
  have HL := Lib.hid hl
  have HWq := Lib.hid ew
  have HGq := Lib.hid hga
  have HOK := Lib.hid hOk
  obtain ⟨n1, n2, n3, n4, n5, n6⟩ := hN
  have hgs : ga + 1 < W.heap.size := t3.lt
  have R0 : RT W W base most budget E s 0 (.int .u64 s) (.slice none 0 0) (.slice none 0 0) (.slice none 0 0) :=
    ⟨⟨[], [], R3.nil _ _ (Below.refl _ _), rfl, rfl⟩, rfl⟩
  have HR0 := Lib.hid R0
  unfold tv
  clear h hr t0 t3 u0 hl hw1 hW ha1 z1 z4 ew hga hOk a1 R0
  go_enter Try.func19, Try.ntmps19
  go_wp2_with fail
  rw [← HWq.out, ← HGq.out]
  clear HWq
  go_loopw [1, 8, 9, 10, 11] (fun sv lv av bv iv wr => ∃ i : Nat, i ≤ E.length ∧ iv = .int .i64 i ∧ RT W wr base most budget E s i sv lv av bv)
    (fun _ _ _ _ iv _ => E.length - (intOf iv).toNat)
  case atStart => exact ⟨0, Nat.zero_le _, rfl, HR0.out⟩
  case round =>
    clear HR0
    obtain ⟨i, hi, rfl, ⟨AE, BE, R, hA, hB⟩, rfl⟩ := hrel
    obtain ⟨t, ht⟩ : ∃ t, tk base most budget E s i = t := ⟨_, rfl⟩
    have hlen := tk_len base most budget E s i
    rw [ht] at R hA hB hlen ⊢
    have hAl : AE.length = t.asks.length := by rw [← hA]; simp [keysE]
    have hBl : BE.length = t.lost.length := by rw [← hB]; simp [keysE]
    have t0w := T0.out.below R.l.below T0.out.lt
    have c3 : wr.cell? ⟨ga, 3, none⟩ = some (.slice A E.length c) := t0w.cell 3
    have hLm : t.P.length ≤ 1000000 := by omega
    have hAm : AE.length ≤ 1000000 := by omega
    have hBm : BE.length ≤ 1000000 := by omega
    have HLm := Lib.hid hLm
    have HAm := Lib.hid hAm
    have HBm := Lib.hid hBm
    have HA := Lib.hid hA
    have HB := Lib.hid hB
    have HT := Lib.hid ht
    clear hA hB ht hAl hBl hlen hLm hAm hBm
    by_cases hlt : i < E.length
    · obtain ⟨kb, rfl, hkb, hrq⟩ := qrow_at HR.out rfl hlt
      obtain ⟨p, hp⟩ : ∃ p, E.getD i default = p := ⟨_, rfl⟩
      obtain ⟨x, tr, lf⟩ := p
      have hb := HOK.out (x, (tr, lf)) (by rw [← hp, List.getD, List.getElem?_eq_getElem hlt]; exact List.getElem_mem hlt)
      obtain ⟨b1, b2, b3, b4⟩ := hb
      simp only at b1 b2 b3 b4
      rw [hp] at hrq
      obtain ⟨pl, hpl⟩ : ∃ l, encQ (x, (tr, lf)) = l := ⟨_, rfl⟩
      obtain ⟨z78, hzs, hzv⟩ := zero_agg zinfo78 (by decide)
      have hs68 : pl.toArray.size = 68 := by rw [← hpl]; simpa using encQ_length (x, (tr, lf))
      have hones : ∀ v ∈ pl.toArray.toList, v.oneCell' = true := by rw [← hpl]; simpa using encQ_ones (x, (tr, lf))
      have hsz : (Try.prog.info? 78).map (·.size) = some pl.toArray.size := by rw [← hpl]; simpa using size78_ (x, (tr, lf))
      rw [hpl] at hrq
      have HRP := Lib.hid (range_below hrq R.l.below hkb)
      have HON := Lib.hid hones
      have HSZ := Lib.hid hsz
      have HS68 := Lib.hid hs68
      have HP := Lib.hid hp
      have HPL := Lib.hid hpl
      have HT0 := Lib.hid t0w
      have HR3 := Lib.hid R
      have hfr := R.fresh (Nat.le_refl _)
      have hgw : ga + 1 < wr.heap.size := Nat.lt_of_lt_of_le hgs R.l.below.size
      have hWs := R.l.below.size
      clear hp hpl hs68 hones hsz hrq hkb t0w R
      go_wp2_with (first
        | (refine wpList_load_range 78 (.tmp 27) kb (i * 68) pl.toArray _ rfl rfl rfl Try.underlying78 rfl HSZ.out HRP.out ?_)
        | (refine wpList_store_blk 78 (.tmp 12) (.tmp 28) wr.heap.size _ pl.toArray rfl rfl rfl rfl HSZ.out (Blk.new _ _ _) (by rw [HS68.out, hzs]) HON.out ?_))
      intro v0 kb0 kg0 _
      have hBv : Below wr.heap.size wr v0 := (((Below.refl _ wr).alloc (Nat.le_refl _) _).grown kg0 (by simp) (fun j e => by injection e with e; omega))
      obtain ⟨gq, hgq⟩ : ∃ gq, gq = wr.heap.size := ⟨_, rfl⟩
      rw [← hgq] at kb0 kg0 hfr hgw hWs ⊢
      have hgl : wr.heap.size ≤ gq := by omega
      clear hgq
      have hR0 := HR3.out.below_ hBv
      have hT0 := HT0.out.below hBv HT0.out.lt
      have k1 : Blk v0 gq 78 (encQ (x, (tr, lf))).toArray := by rw [HPL.out]; exact kb0
      have hl : v0.cell? ⟨gq, 67, none⟩ = some (.int .i64 lf) := by
        have := (q_parts (o := 0) (b := gq) (p := (x, (tr, lf))) (by simpa using k1.range)).2.2.2
        simpa using this
      have hf : v0.frozen? ⟨gq, 67, none⟩ = false := k1.frozen 67
      have k2 := k1.set_ 67 (.int .i64 (lf - 1))
      rw [set67] at k2
      have hg1 : v0.grownBy (v0.setCell ⟨gq, 67, none⟩ (.int .i64 (lf - 1))) (some gq) := ⟨rfl, rfl, rfl, by simp, fun k _ hk => Below.heap_setCell v0 _ _ k (fun e => hk (by rw [e]))⟩
      have hR1 := hR0.own_grown hg1 hWs hfr.1 hfr.2.1 hfr.2.2
      have hT1 := hT0.grown hg1 (fun e => by injection e with e; omega)
      have x6 : (v0.setCell ⟨gq, 67, none⟩ (.int .i64 (lf - 1))).cell? ⟨gq, 66, none⟩ = some (.int .i64 tr) := by
        have := (q_parts (o := 0) (b := gq) (p := (x, (tr, lf - 1))) (by simpa using k2.range)).2.2.1
        simpa using this
      have x7 : (v0.setCell ⟨gq, 67, none⟩ (.int .i64 (lf - 1))).cell? ⟨gq, 67, none⟩ = some (.int .i64 (lf - 1)) := by
        have := (q_parts (o := 0) (b := gq) (p := (x, (tr, lf - 1))) (by simpa using k2.range)).2.2.2
        simpa using this
      have y0 : (v0.setCell ⟨gq, 67, none⟩ (.int .i64 (lf - 1))).cell? ⟨ga, 0, none⟩ = some (.int .i64 base) := hT1.cell 0
      have y1 : (v0.setCell ⟨gq, 67, none⟩ (.int .i64 (lf - 1))).cell? ⟨ga, 1, none⟩ = some (.int .i64 most) := hT1.cell 1
      have y2 : (v0.setCell ⟨gq, 67, none⟩ (.int .i64 (lf - 1))).cell? ⟨ga, 2, none⟩ = some (.int .i64 budget) := hT1.cell 2
      obtain ⟨ql, hql⟩ : ∃ l, encQ (x, (tr, lf - 1)) = l := ⟨_, rfl⟩
      have hsq : (Try.prog.info? 78).map (·.size) = some ql.toArray.size := by rw [← hql]; simpa using size78_ (x, (tr, lf - 1))
      rw [hql] at k2
      have HQL := Lib.hid hql
      have HSQ := Lib.hid hsq
      have K2 := Lib.hid k2
      have HR1 := Lib.hid hR1
      have HT1 := Lib.hid hT1
      have Y1 := Lib.hid y1
      clear kb0 kg0 hBv hR0 hT0 k1 k2 hg1 hR1 hT1 hql hsq hzv hzs z78 HS68 HSZ HON HRP HPL HR3 HT0 hgw c3 HOK HR
      by_cases h1 : 0 < lf - 1
      · have hk := tk_stay (base := base) (most := most) (budget := budget) (s := s) hlt HP.out h1
        rw [HT.out] at hk
        have HK := Lib.hid hk
        clear hk y0 y1 y2 x6 Y1
        go_wp2_with (first
          | (refine wpList_load_range 78 (.tmp 12) gq 0 ql.toArray _ rfl rfl rfl Try.underlying78 rfl HSQ.out K2.out.range ?_)
          | (refine wpList_push2 (.tmp 37) (.tmp 36) 38 rfl rfl rfl rfl rfl ql HQL.out rfl rfl rfl HR1.out.l HLm.out ?_))
        intro v9 w9 hown hg hob
        have HR9 := Lib.hid (HR1.out.pushL hown hg (by simpa using hob))
        clear hown hg hob HR1 hl hf x7
        go_wp2_with fail
        go_roundw
        case rel => exact ⟨i + 1, by omega, by go_num, ⟨AE, BE, by rw [HK.out]; exact HR9.out, by rw [HK.out]; exact HA.out, by rw [HK.out]; exact HB.out⟩, by rw [HK.out]⟩
        case measure => first | (simp [intOf]; done) | (simp [intOf]; omega)
      · by_cases h2 : tr = budget
        · subst h2
          have hk := tk_lose (base := base) (most := most) (s := s) hlt HP.out h1 rfl
          rw [HT.out] at hk
          have HK := Lib.hid hk
          clear hk y0 y1 Y1
          go_wp2_with (first
            | (refine wpList_load_range 78 (.tmp 12) gq 0 ql.toArray _ rfl rfl rfl Try.underlying78 rfl HSQ.out K2.out.range ?_)
            | (refine wpList_push2 (.tmp 46) (.tmp 45) 47 rfl rfl rfl rfl rfl ql HQL.out rfl rfl rfl HR1.out.b HBm.out ?_))
          intro v9 w9 hown hg hob
          have HR9 := Lib.hid (HR1.out.pushB hown hg (by simpa using hob))
          clear hown hg hob HR1 hl hf x7 x6 y2
          go_wp2_with fail
          go_roundw
          case rel => exact ⟨i + 1, by omega, by go_num, ⟨AE, BE ++ [(x, (tr, lf - 1))], by rw [HK.out]; exact HR9.out, by rw [HK.out]; exact HA.out, by rw [HK.out]; simp only [keysE, List.map_append, List.map_cons, List.map_nil]; rw [← HB.out]; rfl⟩, by rw [HK.out]⟩
          case measure => first | (simp [intOf]; done) | (simp [intOf]; omega)
        · have hk := tk_ask (base := base) (most := most) (budget := budget) (s := s) hlt HP.out h1 h2
          rw [HT.out] at hk
          have HK := Lib.hid hk
          have htb : tr < budget := by omega
          have hbq : (tr == budget) = false := by simp [h2]
          clear hk h2
          go_wp2_with fail
          obtain ⟨v1, hv1⟩ : ∃ v1, v0.setCell ⟨gq, 67, none⟩ (.int .i64 (lf - 1)) = v1 := ⟨_, rfl⟩
          rw [hv1] at HR1 HT1 K2 x6 x7 y0 y1 y2 Y1 ⊢
          clear hv1 hl hf hbq
          go_loopw [13, 14] (fun wv kv wi => ∃ (k : Nat) (v : Int), (k : Int) ≤ tr ∧ kv = .int .i64 k ∧ wv = .int .i64 v ∧ Hid (v = base * 2 ^ k) ∧ wi = v1)
            (fun _ kv _ => tr.toNat - (intOf kv).toNat)
          case atStart => exact ⟨0, base, by omega, rfl, rfl, (by simp : base = base * 2 ^ 0), rfl⟩
          case round =>
            obtain ⟨k, v, hk, rfl, rfl, hv, rfl⟩ := hrel
            have hb := pow_bound (k := k) n1 n2 (by omega)
            rw [← hv.out] at hb
            obtain ⟨hb1, hb2⟩ := hb
            by_cases hkt : (k : Int) < tr
            · have hb3 := pow_next base k
              rw [← hv.out] at hb3
              have HV := Lib.hid hb3
              clear hb3 hv
              go_wp2_with fail
              go_roundw
              case rel => exact ⟨k + 1, v * 2, by omega, by go_num, by go_num, HV.out, by first | rfl | trivial⟩
              case measure => first | (simp [intOf]; done) | (simp [intOf]; omega)
            · have hke : (k : Int) = tr := by omega
              have hkn : k = tr.toNat := by omega
              have hwt : wait base most tr = if most < v then most else v := by
                unfold wait
                rw [← hkn, ← hv.out]
              have HW := Lib.hid hwt
              have hbv := belV_lt (s := t.s) n1
              have HC := Lib.hid (rbel_any t.s base wr n1 (by omega))
              obtain ⟨bv', hbv'⟩ : ∃ b, belV t.s base = b := ⟨_, rfl⟩
              obtain ⟨bs', hbs'⟩ : ∃ b, belS t.s base = b := ⟨_, rfl⟩
              rw [hbv'] at HC hbv HK
              rw [hbs'] at HC HK
              clear hbv' hbs' hwt hv hkn
              by_cases h3 : most < v
              · rw [if_pos h3] at HW
                rw [HW.out] at HK
                go_wp2_with fail
                refine HC.out.mono ?_
                rintro e w5 ⟨rfl, hB5⟩
                have hR5 := HR1.out.below_ hB5
                have hT5 := HT1.out.below hB5 HT1.out.lt
                have k5 := K2.out.below hB5 K2.out.lt
                rw [← HQL.out] at k5
                have p6 : w5.cell? ⟨gq, 66, none⟩ = some (.int .i64 tr) := by have := (q_parts (o := 0) (b := gq) (p := (x, (tr, lf - 1))) (by simpa using k5.range)).2.2.1; simpa using this
                have p7 : w5.cell? ⟨gq, 67, none⟩ = some (.int .i64 (lf - 1)) := by have := (q_parts (o := 0) (b := gq) (p := (x, (tr, lf - 1))) (by simpa using k5.range)).2.2.2; simpa using this
                have f6 : w5.frozen? ⟨gq, 66, none⟩ = false := k5.frozen 66
                have f7 : w5.frozen? ⟨gq, 67, none⟩ = false := k5.frozen 67
                have k6 := (k5.set_ 66 (.int .i64 (tr + 1)))
                rw [set66] at k6
                have k7 := k6.set_ 67 (.int .i64 (most + bv'))
                rw [set67] at k7
                have hg5 : w5.grownBy (w5.setCell ⟨gq, 66, none⟩ (.int .i64 (tr + 1))) (some gq) := ⟨rfl, rfl, rfl, by simp, fun k _ hk => Below.heap_setCell w5 _ _ k (fun e => hk (by rw [e]))⟩
                have hg6 : (w5.setCell ⟨gq, 66, none⟩ (.int .i64 (tr + 1))).grownBy ((w5.setCell ⟨gq, 66, none⟩ (.int .i64 (tr + 1))).setCell ⟨gq, 67, none⟩ (.int .i64 (most + bv'))) (some gq) := ⟨rfl, rfl, rfl, by simp, fun k _ hk => Below.heap_setCell _ _ _ k (fun e => hk (by rw [e]))⟩
                have hR6 := (hR5.own_grown hg5 hWs hfr.1 hfr.2.1 hfr.2.2).own_grown hg6 hWs hfr.1 hfr.2.1 hfr.2.2
                obtain ⟨rl, hrl⟩ : ∃ l, encQ (x, (tr + 1, (most + bv'))) = l := ⟨_, rfl⟩
                have hsr : (Try.prog.info? 78).map (·.size) = some rl.toArray.size := by rw [← hrl]; simpa using size78_ (x, (tr + 1, (most + bv')))
                rw [hrl] at k7
                have HRL := Lib.hid hrl
                have HSR := Lib.hid hsr
                have K7 := Lib.hid k7
                have HR6 := Lib.hid hR6
                clear hB5 hR5 hT5 k5 k6 k7 hg5 hg6 hR6 hrl hsr HC HR1 HT1 K2 HQL HSQ x6 x7 y0 y1 y2 Y1
                go_wp2_with (first
                  | (refine wpList_load_range 78 (.tmp 12) gq 0 rl.toArray _ rfl rfl rfl Try.underlying78 rfl HSR.out K7.out.range ?_)
                  | (refine wpList_push2 (.tmp 82) (.tmp 81) 83 rfl rfl rfl rfl rfl rl HRL.out rfl rfl rfl HR6.out.l HLm.out ?_))
                intro v8 w8 hown hg hob
                have k8 := (K7.out.alloc (.cells (encQ (x, (tr + 1, (most + bv')))).toArray 78)).grown hg (fun e => hfr.1 e.symm)
                have hR8 := HR6.out.pushL hown hg (by simpa using hob)
                have K8 := Lib.hid k8
                have HR8 := Lib.hid hR8
                clear k8 hR8 hown hg hob HR6 K7 p6 p7 f6 f7
                go_wp2_with (first
                  | (refine wpList_load_range 78 (.tmp 12) gq 0 rl.toArray _ rfl rfl rfl Try.underlying78 rfl HSR.out K8.out.range ?_)
                  | (refine wpList_push2 (.tmp 86) (.tmp 85) 87 rfl rfl rfl rfl rfl rl HRL.out rfl rfl rfl HR8.out.a HAm.out ?_))
                intro v9 w9 hown hg hob
                have HR9 := Lib.hid (HR8.out.pushA hown hg (by simpa using hob))
                clear hown hg hob HR8 K8
                go_wp2_with fail
                go_roundw
                case rel => exact ⟨i + 1, by omega, by go_num, ⟨AE ++ [(x, (tr + 1, (most + bv')))], BE, by rw [HK.out]; exact HR9.out, by rw [HK.out]; simp only [keysE, List.map_append, List.map_cons, List.map_nil]; rw [← HA.out]; rfl, by rw [HK.out]; exact HB.out⟩, by rw [HK.out]⟩
                case measure => first | (simp [intOf]; done) | (simp [intOf]; omega)
              · rw [if_neg h3] at HW
                rw [HW.out] at HK
                go_wp2_with fail
                refine HC.out.mono ?_
                rintro e w5 ⟨rfl, hB5⟩
                have hR5 := HR1.out.below_ hB5
                have hT5 := HT1.out.below hB5 HT1.out.lt
                have k5 := K2.out.below hB5 K2.out.lt
                rw [← HQL.out] at k5
                have p6 : w5.cell? ⟨gq, 66, none⟩ = some (.int .i64 tr) := by have := (q_parts (o := 0) (b := gq) (p := (x, (tr, lf - 1))) (by simpa using k5.range)).2.2.1; simpa using this
                have p7 : w5.cell? ⟨gq, 67, none⟩ = some (.int .i64 (lf - 1)) := by have := (q_parts (o := 0) (b := gq) (p := (x, (tr, lf - 1))) (by simpa using k5.range)).2.2.2; simpa using this
                have f6 : w5.frozen? ⟨gq, 66, none⟩ = false := k5.frozen 66
                have f7 : w5.frozen? ⟨gq, 67, none⟩ = false := k5.frozen 67
                have k6 := (k5.set_ 66 (.int .i64 (tr + 1)))
                rw [set66] at k6
                have k7 := k6.set_ 67 (.int .i64 (v + bv'))
                rw [set67] at k7
                have hg5 : w5.grownBy (w5.setCell ⟨gq, 66, none⟩ (.int .i64 (tr + 1))) (some gq) := ⟨rfl, rfl, rfl, by simp, fun k _ hk => Below.heap_setCell w5 _ _ k (fun e => hk (by rw [e]))⟩
                have hg6 : (w5.setCell ⟨gq, 66, none⟩ (.int .i64 (tr + 1))).grownBy ((w5.setCell ⟨gq, 66, none⟩ (.int .i64 (tr + 1))).setCell ⟨gq, 67, none⟩ (.int .i64 (v + bv'))) (some gq) := ⟨rfl, rfl, rfl, by simp, fun k _ hk => Below.heap_setCell _ _ _ k (fun e => hk (by rw [e]))⟩
                have hR6 := (hR5.own_grown hg5 hWs hfr.1 hfr.2.1 hfr.2.2).own_grown hg6 hWs hfr.1 hfr.2.1 hfr.2.2
                obtain ⟨rl, hrl⟩ : ∃ l, encQ (x, (tr + 1, (v + bv'))) = l := ⟨_, rfl⟩
                have hsr : (Try.prog.info? 78).map (·.size) = some rl.toArray.size := by rw [← hrl]; simpa using size78_ (x, (tr + 1, (v + bv')))
                rw [hrl] at k7
                have HRL := Lib.hid hrl
                have HSR := Lib.hid hsr
                have K7 := Lib.hid k7
                have HR6 := Lib.hid hR6
                clear hB5 hR5 hT5 k5 k6 k7 hg5 hg6 hR6 hrl hsr HC HR1 HT1 K2 HQL HSQ x6 x7 y0 y1 y2 Y1
                go_wp2_with (first
                  | (refine wpList_load_range 78 (.tmp 12) gq 0 rl.toArray _ rfl rfl rfl Try.underlying78 rfl HSR.out K7.out.range ?_)
                  | (refine wpList_push2 (.tmp 82) (.tmp 81) 83 rfl rfl rfl rfl rfl rl HRL.out rfl rfl rfl HR6.out.l HLm.out ?_))
                intro v8 w8 hown hg hob
                have k8 := (K7.out.alloc (.cells (encQ (x, (tr + 1, (v + bv')))).toArray 78)).grown hg (fun e => hfr.1 e.symm)
                have hR8 := HR6.out.pushL hown hg (by simpa using hob)
                have K8 := Lib.hid k8
                have HR8 := Lib.hid hR8
                clear k8 hR8 hown hg hob HR6 K7 p6 p7 f6 f7
                go_wp2_with (first
                  | (refine wpList_load_range 78 (.tmp 12) gq 0 rl.toArray _ rfl rfl rfl Try.underlying78 rfl HSR.out K8.out.range ?_)
                  | (refine wpList_push2 (.tmp 86) (.tmp 85) 87 rfl rfl rfl rfl rfl rl HRL.out rfl rfl rfl HR8.out.a HAm.out ?_))
                intro v9 w9 hown hg hob
                have HR9 := Lib.hid (HR8.out.pushA hown hg (by simpa using hob))
                clear hown hg hob HR8 K8
                go_wp2_with fail
                go_roundw
                case rel => exact ⟨i + 1, by omega, by go_num, ⟨AE ++ [(x, (tr + 1, (v + bv')))], BE, by rw [HK.out]; exact HR9.out, by rw [HK.out]; simp only [keysE, List.map_append, List.map_cons, List.map_nil]; rw [← HA.out]; rfl, by rw [HK.out]; exact HB.out⟩, by rw [HK.out]⟩
                case measure => first | (simp [intOf]; done) | (simp [intOf]; omega)
    · obtain rfl : i = E.length := by omega
      have hte := tk_all base most budget E s
      rw [HT.out] at hte
      have HTE := Lib.hid hte.symm
      clear hte
      obtain ⟨A2, c2, rfl⟩ := qrow_own_slice R.l.own
      obtain ⟨A3, c3', rfl⟩ := qrow_own_slice R.a.own
      obtain ⟨A4, c4, rfl⟩ := qrow_own_slice R.b.own
      have t0f := T0.out.below R.l.below T0.out.lt
      have t3f := T3.out.below R.l.below T3.out.lt
      have hfz := t0f.frozen 3
      have t0s := tset (v' := .slice A2 t.P.length c2) t0f
      have hgs2 : wr.grownBy (wr.setCell ⟨ga, 3, none⟩ (.slice A2 t.P.length c2)) (some ga) := ⟨rfl, rfl, rfl, by simp, fun k _ hk => Below.heap_setCell wr _ _ k (fun e => hk (by rw [e]))⟩
      have t3s := t3f.grown hgs2 (fun e => by injection e with e; omega)
      have hr1 := R.l.own.kept hgs2 (.inr (own_blk_ne R.l.own t0f (by decide)))
      have hr2 := R.a.own.kept hgs2 (.inr (own_blk_ne R.a.own t0f (by decide)))
      have hr3 := R.b.own.kept hgs2 (.inr (own_blk_ne R.b.own t0f (by decide)))
      have hls := (HL.out.trans (R.l.below.mono HL.out.size)).grown hgs2 (HL.out.trans (R.l.below.mono HL.out.size)).size (fun k e => by injection e with e; have := HGq.out; omega)
      have TS := Lib.hid t0s
      have T3' := Lib.hid t3s
      have R1' := Lib.hid hr1
      have R2' := Lib.hid hr2
      have R3' := Lib.hid hr3
      have HL' := Lib.hid hls
      clear t0f t3f t0s hgs2 t3s hr1 hr2 hr3 hls R t0w HLm HAm HBm
      go_wp2_with (first
        | (refine wpList_load_range 48 (.tmp 2) ga 0 (tcells base most budget (.slice A2 t.P.length c2)) _ rfl rfl rfl Try.underlying48 rfl (size48 _ _ _ _) TS.out.range ?_)
        | (refine wpList_store_blk 48 (.tmp 4) (.tmp 91) (ga + 1) (tcells 0 0 0 (.slice none 0 0)) (tcells base most budget (.slice A2 t.P.length c2)) rfl rfl rfl rfl (size48 _ _ _ _) T3'.out rfl (tcells_ones _ _ _ _ _ _) ?_))
      intro v7 kb7 kg7 _
      have hr1 := R1'.out.kept kg7 (.inr (own_blk_ne R1'.out T3'.out (by decide)))
      have hr2 := R2'.out.kept kg7 (.inr (own_blk_ne R2'.out T3'.out (by decide)))
      have hr3 := R3'.out.kept kg7 (.inr (own_blk_ne R3'.out T3'.out (by decide)))
      have hl2 := HL'.out.grown kg7 HL'.out.size (fun k e => by injection e with e; have := HGq.out; omega)
      have HK := Lib.hid kb7
      have Q1 := Lib.hid hr1
      have Q2 := Lib.hid hr2
      have Q3 := Lib.hid hr3
      have HL2 := Lib.hid hl2
      clear kb7 kg7 hr1 hr2 hr3 hl2 R1' R2' R3' HL' T3' TS c3 hfz
      go_wp2_with fail
      refine bodyPost_ret (results_t4 rfl rfl rfl HK.out rfl) rfl ?_
      rw [HTE.out]
      exact ⟨A2, c2, _, A3, c3', A4, c4, AE, BE, rfl, Q1.out, Q2.out, HA.out, Q3.out, HB.out, HL2.out⟩
end Go.Proofs.Ythjgmnafbikihaa
