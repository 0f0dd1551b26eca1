/-
  FetchDone: what is done isn't asked for any more, nor told that it isn't waited for; for every seed, row of keys, place and number of ticks, without conditions; what the caller can reach lies as it did.
-/
import Derived.Test.YthjgmnafbikihaaRows
import Derived.WalkKit
import Derived.ProofKit
import Derived.OpenShut
import Derived.ShutString
import Derived.ChangeOld
import Derived.Below
import Derived.Test.YthjgmnafbikihaaFw
namespace Go.Proofs.Ythjgmnafbikihaa.fetchDone
open Go.ChangeShapes Go.WideShapes Go.ChangeAt Go.RowKit
open Go.ChangeMaps (open_string shut_string)
set_option linter.unusedVariables false
set_option linter.unusedSimpArgs false

theorem own : ownKnob Try.prog.godebug = none := by kernel_rfl
theorem laidOut : laidOutB Try.prog = true := by kernel_rfl

open Go.Sort Go.Maps in
set_option maxRecDepth 100000 in
set_option maxHeartbeats 4000000 in
theorem walk (a0 : Int) (a1 : Option Addr) (len1 cap1 : Nat) (a2 : Int) (a3 : Int) (w : World) (w0 : (Lit.int .u64 a0).wf = true) (w1 : IsKeys w a1 len1 cap1) (w2 : (Lit.int .u8 a2).wf = true) (w3 : (Lit.int .u8 a3).wf = true) :
    Calls Try.prog 7 #[.int .u64 a0, .slice a1 len1 cap1, .int .u8 a2, .int .u8 a3] w fun e w' => e = .returned (.bool true) ∧ Below w.heap.size w w' := by
  have b2 := bounds_u8 w2
  have b3 := bounds_u8 w3
  obtain ⟨hlc, hcm, hrow⟩ := w1
  have HR := Lib.hid hrow
  clear w0 w2 w3 hlc hrow
  go_enter Try.func7, Try.ntmps7
  go_wp2_with fail
  refine (awake_any _).mono ?_
  rintro e w1 ⟨rfl, B1⟩
  by_cases hbig : 12 < len1
  · go_wp2_with fail
    go_ret
    exact ⟨rfl, B1⟩
  have hlen : len1 ≤ 12 := by omega
  have HB1 := Lib.hid B1
  clear B1 hbig
  go_wp2_with fail
  refine (ht_new w w1 2 8 3 HB1.out (by unfold newOk; omega)).mono ?_
  rintro e w2 ⟨g, b, rfl, ht2, q1⟩
  have H1 := Lib.hid (ht_dice ht2 a0)
  clear ht2 q1 HB1
  go_wp2_with fail
  refine H1.out.mono ?_
  rintro e w3 ⟨d, rfl, hd3, q1, q2⟩
  have HD3 := Lib.hid hd3
  clear q1 q2 H1 hd3
  go_wp2_with fail
  go_loopw [13] (fun iv wr => ∃ (i : Nat) (E : En), i ≤ len1 ∧ iv = .int .i64 i ∧ HD w wr g b d 2 8 3 E a0 ∧ (∀ p ∈ E, p.2 = (0, 1)) ∧ E.length ≤ i ∧ (E = [] → i = 0))
    (fun iv _ => len1 - (intOf iv).toNat)
  case atStart => exact ⟨0, [], Nat.zero_le _, rfl, HD3.out, (fun p hp => by cases hp), Nat.le_refl _, fun _ => rfl⟩
  case round =>
    clear HD3
    obtain ⟨i, E, hi, rfl, hd, hnew, hEl, hne⟩ := hrel
    by_cases hlt : i < len1
    · obtain ⟨x, b0, off, rfl, hb0, hr⟩ : ∃ (x : KV) (b0 off : _), a1 = some ⟨b0, off, none⟩ ∧ b0 < w.heap.size ∧ w.rangeAt b0 (off + i * 33) (kcells x.1) := by
        rcases HR.out with h | ⟨b0, off, ha, hb0, h⟩
        · omega
        · obtain ⟨cs, _, ⟨x, rfl⟩, hr⟩ := h i hlt
          exact ⟨x, b0, off, ha, hb0, hr⟩
      obtain ⟨kl, hkl⟩ : ∃ kl, kcells x.1 = kl := ⟨_, rfl⟩
      have hk33 : kl.length = 33 := by rw [← hkl]; exact kcells_length x.2
      have hik : (Try.prog.info? 26).map (·.size) = some kl.toArray.size := by
        have h : (Try.prog.info? 26).map (·.size) = some 33 := by kernel_rfl
        rw [h]; simp [hk33]
      obtain ⟨il, hil⟩ : ∃ il, encS (wnow x) = il := ⟨_, rfl⟩
      have hwv : wv (wnow x) = .agg il.toArray := by rw [← hil]; rfl
      rw [hkl] at hr
      have hrr := range_below hr hd.ht.below hb0
      have h1 := hd_start hd (by unfold maxLen; omega) (wnow x)
      have hsl := stE_len E (wnow x)
      have hsn := stE_new hnew (wnow x)
      rw [hwv] at h1
      have H1 := Lib.hid h1
      have HI := Lib.hid hik
      have HRR := Lib.hid hrr
      have HSN := Lib.hid hsn
      have HSL := Lib.hid (show stE E (wnow x) = [] → False by
        intro e
        rw [e] at hsl
        split at hsl
        · rename_i hq
          simp only [List.length_nil] at hsl
          have : E = [] := List.length_eq_zero_iff.1 hsl.symm
          rw [this] at hq
          cases hq
        · simp only [List.length_nil] at hsl; omega)
      have HLE := Lib.hid (show (stE E (wnow x)).length ≤ i + 1 by rw [hsl]; split <;> omega)
      have HWV := Lib.hid hwv
      have HKL := Lib.hid hkl
      clear h1 hik hrr hsn hd hnew hwv hil hr hsl hk33 hkl hEl hne
      generalize stE E (wnow x) = E' at H1 HSN HSL HLE
      go_wp2_with (first
        | (refine wpList_load_range 26 (.tmp 47) b0 (off + i * 33) kl.toArray _ rfl rfl rfl Try.underlying26 rfl HI.out HRR.out ?_)
        | (refine wpList_build_now (.tmp 48) x rfl rfl (by rw [HKL.out]; rfl) ?_; rw [HWV.out]))
      refine H1.out.mono ?_
      rintro e w4 ⟨rfl, hd4, q1⟩
      have HD4 := Lib.hid hd4
      clear hd4 q1 H1 HRR
      go_wp2_with fail
      go_roundw
      case rel => exact ⟨i + 1, E', by omega, by go_num, HD4.out, HSN.out, HLE.out, fun e => absurd e (fun e => HSL.out e)⟩
      case measure => first | (simp [intOf]; done) | (simp [intOf]; omega)
    · obtain rfl : i = len1 := by omega
      have hlo : ∀ p ∈ E, (15 : Int) - (0 : Nat) ≤ loS p.2 := fun p hp => by rw [hnew p hp]; decide
      have hup : ∀ p ∈ E, upS p.2 ≤ 31 := fun p hp => by rw [hnew p hp]; decide
      have hE12 : E.length ≤ 12 := by omega
      have HD4 := Lib.hid hd
      have HLO := Lib.hid hlo
      have HUP := Lib.hid hup
      have HNE := Lib.hid hne
      clear hd hlo hup hne hnew hEl HR
      obtain ⟨tm, htm⟩ : ∃ tm : Nat, a3 % 8 = tm := ⟨(a3 % 8).toNat, by omega⟩
      have htm8 : tm < 8 := by omega
      have HTM := Lib.hid htm
      clear htm
      go_wp2_with fail
      go_loopw [14] (fun jv wr => ∃ (j : Nat) (E' : En) (s : Int), j ≤ tm ∧ jv = .int .i64 j ∧ HD w wr g b d 2 8 3 E' s ∧ (∀ p ∈ E', (15 : Int) - j ≤ loS p.2) ∧ (∀ p ∈ E', upS p.2 ≤ 31) ∧ E'.length = E.length)
        (fun jv _ => tm - (intOf jv).toNat)
      case atStart => exact ⟨0, E, a0, Nat.zero_le _, rfl, HD4.out, HLO.out, HUP.out, rfl⟩
      case round =>
        clear HD4 HLO HUP
        obtain ⟨j, E', s, hj, rfl, hd, hlo, hup, hlen'⟩ := hrel
        by_cases hjt : j < tm
        · obtain ⟨t, ht⟩ : ∃ t, tick 2 8 3 E' s = t := ⟨_, rfl⟩
          have h2 := hd_tick hd (by omega) t ht
          have hok := hd.ht.ok
          have k1 := lo_keep (s := s) (show (2 : Int) ≤ 15 - j by omega) hok hlo
          have k2 := tick_lo (s := s) hok hlo
          have k3 := tick_up (s := s) hok hup
          rw [ht] at k1 k2 k3
          have H2 := Lib.hid h2
          have HLO := Lib.hid (show ∀ p ∈ t.P, (15 : Int) - (j + 1 : Nat) ≤ loS p.2 from fun p hp => by have := k2 p hp; omega)
          have HUP := Lib.hid (show ∀ p ∈ t.P, upS p.2 ≤ 31 from fun p hp => by have := k3 p hp; omega)
          have HLE := Lib.hid (show t.P.length = E.length by have := congrArg List.length k1; simp only [keysE, List.length_map] at this; omega)
          have hjl : (j : Int) < a3 % 8 := by rw [HTM.out]; omega
          clear h2 hok k1 k2 k3 hd hlo hup ht hlen'
          go_wp2_with fail
          refine H2.out.mono ?_
          rintro e w5 ⟨A, c, A', c', m, rfl, q1, q2, q3, hd5, q4⟩
          have HD5 := Lib.hid hd5
          clear hd5 q1 q2 q3 q4 H2 hjl
          go_wp2_with fail
          go_roundw
          case rel => exact ⟨j + 1, t.P, t.s, by omega, by go_num, HD5.out, HLO.out, HUP.out, HLE.out⟩
          case measure => first | (simp [intOf]; done) | (simp [intOf]; omega)
        · have hjl : ¬ (j : Int) < a3 % 8 := by rw [HTM.out]; omega
          have h3 := hd_open hd (by omega)
          have HUP := Lib.hid hup
          have H3 := Lib.hid h3
          clear hd hlo hup h3
          obtain ⟨n, hn⟩ : ∃ n, E'.length = n := ⟨_, rfl⟩
          have hn12 : n ≤ 12 := by omega
          rw [hn] at H3
          have HN := Lib.hid hn
          have HNL := Lib.hid (show n = E.length by omega)
          clear hn hlen' hE12
          go_wp2_with fail
          refine H3.out.mono ?_
          rintro e w5 ⟨B, c5, rfl, ho5, hd5, hB5⟩
          have HO5 := Lib.hid ho5
          have HD5 := Lib.hid hd5
          clear ho5 hd5 hB5 H3 hjl
          by_cases hn0 : n = 0
          · subst hn0
            have hi0 : i = 0 := HNE.out (List.length_eq_zero_iff.1 HNL.out.symm)
            subst hi0
            have HB := Lib.hid HD5.out.ht.below
            go_wp2_with fail
            go_ret
            exact ⟨by first | rfl | simp, HB.out⟩
          · have hn1 : 0 < n := by omega
            have hnz : ((n : Int) = 0) = False := by simp; omega
            obtain ⟨q, hq⟩ : ∃ q : Nat, a2 % (n : Int) = q := ⟨(a2 % (n : Int)).toNat, by have := Int.emod_nonneg a2 (show (n : Int) ≠ 0 by omega); omega⟩
            have hqn : q < n := by have := Int.emod_lt_of_pos a2 (show (0 : Int) < n by omega); omega
            obtain ⟨bo, rfl, hbo, hro⟩ := row_at HO5.out (show (keysE E').length = n by rw [← HN.out]; simp [keysE]) hqn
            obtain ⟨x, hx⟩ : ∃ x, (keysE E').getD q default = x := ⟨_, rfl⟩
            rw [hx] at hro
            have hxin : (lk E' x).isSome = true := by
              rw [lk_mem, ← hx]
              have : q < (keysE E').length := by rw [show (keysE E').length = n by rw [← HN.out]; simp [keysE]]; exact hqn
              simp [this]
            obtain ⟨il, hil⟩ : ∃ il, encS x = il := ⟨_, rfl⟩
            have hwv : wv x = .agg il.toArray := by rw [← hil]; rfl
            have hi35 : (Try.prog.info? 35).map (·.size) = some il.toArray.size := by rw [← hil]; exact size35 _
            have hone := ones_enc x
            have hs66 : il.toArray.size = 66 := by rw [← hil]; have := wcells_length x.2; simpa [encS] using this
            rw [hil] at hro hone
            have HONE := Lib.hid hone
            clear hone
            have HD5' := Lib.hid HD5.out
            have h4 := fun w' (hw' : Below w5.heap.size w5 w') => hd_done (HD5.out.below_ hw') x
            rw [hxin, hwv] at h4
            have HWV := Lib.hid hwv
            have HI := Lib.hid hi35
            have HRO := Lib.hid hro
            have H4 := Lib.hid h4
            have hdn : dnE E' x = dnE E' x := rfl
            have HXN := Lib.hid (show lk (dnE E' x) x = none from dn_not HD5.out.ht.tb.srt)
            have HUP2 := Lib.hid (show ∀ p ∈ dnE E' x, upS p.2 ≤ 31 - ((0 : Nat) : Int) from fun p hp => by have := HUP.out p (dn_mem hp); omega)
            have HE2 := Lib.hid (show (dnE E' x).length ≤ 12 by
              have : (dnE E' x).length ≤ E'.length := by
                unfold dnE
                rw [if_pos hxin]
                exact List.length_filter_le _ _
              have := HN.out; omega)
            generalize dnE E' x = E2 at H4 HXN HUP2 HE2
            clear hwv hi35 hro h4 hil hx hxin hdn HUP HN HNL HNE HD5 HO5 hbo HTM
            obtain ⟨z35, hzs, hzv⟩ := zero_agg zinfo35 (by decide)
            go_wp2_with (first
              | (refine wpList_load_range 35 (.tmp 75) bo (q * 66) il.toArray _ rfl rfl rfl Try.underlying35 rfl HI.out HRO.out ?_)
              | (refine wpList_store_blk 35 (.tmp 16) (.tmp 76) w5.heap.size _ il.toArray rfl rfl rfl rfl HI.out (Blk.new _ _ _) (by rw [hs66, hzs]) HONE.out ?_))
            intro v0 kb0 kg0 _
            have hBv : Below w5.heap.size w5 v0 := (((Below.refl _ w5).alloc (Nat.le_refl _) _).grown kg0 (by simp) (fun j e => by injection e with e; omega))
            have h4' := H4.out v0 hBv
            have hd0 := HD5'.out.below_ hBv
            have heb : b ≠ w5.heap.size := by have := HD5'.out.ht.tb.tab.lt; omega
            have hed : w5.heap.size ≠ d := by have := HD5'.out.die.lt; omega
            obtain ⟨eb, hebq⟩ : ∃ eb, eb = w5.heap.size := ⟨_, rfl⟩
            rw [← hebq] at heb hed kb0 ⊢
            have HR0 := Lib.hid kb0.range
            have HE0 := Lib.hid kb0
            have H4' := Lib.hid h4'
            clear kb0 kg0 hBv hebq HD5' hzv hzs HONE h4' H4 hd0 HRO
            go_wp2_with (refine wpList_load_range 35 (.tmp 16) eb 0 il.toArray _ rfl rfl rfl Try.underlying35 rfl HI.out HR0.out ?_)
            refine H4'.out.mono ?_
            rintro e w6 ⟨rfl, hd6, hg6⟩
            have he6 := HE0.out.grown hg6 (fun e => heb (by injection e with e; exact e.symm))
            have h5 := hd_done hd6 x
            rw [HXN.out, dn_same HXN.out, HWV.out] at h5
            have H5 := Lib.hid h5
            clear HR0
            have HR0 := Lib.hid he6.range
            have HE6 := Lib.hid he6
            clear h5 hd6 hg6 H4' HE0 he6
            go_wp2_with (refine wpList_load_range 35 (.tmp 16) eb 0 il.toArray _ rfl rfl rfl Try.underlying35 rfl HI.out HR0.out ?_)
            refine H5.out.mono ?_
            rintro e w7 ⟨rfl, hd7, hg7⟩
            have he7 := HE6.out.grown hg7 (fun e => heb (by injection e with e; exact e.symm))
            have HD7 := Lib.hid hd7
            have HE7 := Lib.hid he7
            clear hd7 hg7 he7 H5 HE6 HR0
            go_wp2_with fail
            go_loopw [19] (fun jv wr => ∃ (j : Nat) (E : En) (s : Int), j ≤ 60 ∧ jv = .int .i64 j ∧ HD w wr g b d 2 8 3 E s ∧ Blk wr eb 35 il.toArray ∧ lk E x = none ∧ (∀ p ∈ E, upS p.2 ≤ 31 - (j : Int)) ∧ E.length ≤ 12)
              (fun jv _ => 60 - (intOf jv).toNat)
            case atStart => exact ⟨0, E2, s, Nat.zero_le _, rfl, HD7.out, HE7.out, HXN.out, HUP2.out, HE2.out⟩
            case round =>
              clear HD7 HE7 HXN HUP2 HE2
              obtain ⟨j2, E3, s3, hj2, rfl, hd, he, hxn, hup, hle⟩ := hrel
              by_cases hjt : j2 < 60
              · obtain ⟨t, ht⟩ : ∃ t, tick 2 8 3 E3 s3 = t := ⟨_, rfl⟩
                have h2 := hd_tick hd (by omega) t ht
                have hok := hd.ht.ok
                have k1 := tick_keys (base := 2) (most := 8) (budget := 3) (s := s3) (lk_notin hxn)
                have k2 := tick_le 2 8 3 E3 s3
                have k3 := tick_up (s := s3) hok hup
                rw [ht] at k1 k2 k3
                have H2 := Lib.hid h2
                have HXN := Lib.hid (lk_none k1.1)
                have HXA := Lib.hid k1.2.1
                have HXL := Lib.hid k1.2.2
                have HUP := Lib.hid (show ∀ p ∈ t.P, upS p.2 ≤ 31 - ((j2 + 1 : Nat) : Int) from fun p hp => by have := k3 p hp; omega)
                have HLE := Lib.hid (show t.P.length ≤ 12 by omega)
                have hla : t.asks.length ≤ 12 := by omega
                have hll : t.lost.length ≤ 12 := by omega
                have HE := Lib.hid he
                clear h2 hok k1 k2 k3 hd he hup ht hxn hle
                go_wp2_with fail
                refine H2.out.mono ?_
                rintro e w8 ⟨A, c, A', c', m, rfl, hx8, hy8, hm8, hd8, h28⟩
                have he8 := h28.blk HE.out (fun e => heb e.symm) hed
                have HX8 := Lib.hid hx8
                have HY8 := Lib.hid hy8
                have HD8 := Lib.hid hd8
                have HE8 := Lib.hid he8
                clear hx8 hy8 hm8 hd8 h28 he8 H2 HE
                obtain ⟨na, hna⟩ : ∃ n, t.asks.length = n := ⟨_, rfl⟩
                obtain ⟨nl, hnl⟩ : ∃ n, t.lost.length = n := ⟨_, rfl⟩
                rw [hna] at hla HX8 ⊢
                rw [hnl] at hll HY8 ⊢
                have HNA := Lib.hid hna
                have HNL := Lib.hid hnl
                clear hna hnl
                go_wp2_with fail
                go_loopw [22] (fun kv wr => ∃ k : Nat, k ≤ na ∧ kv = .int .i64 k ∧ Below w8.heap.size w8 wr)
                  (fun kv _ => na - (intOf kv).toNat)
                case atStart => exact ⟨0, Nat.zero_le _, rfl, Below.refl _ _⟩
                case round =>
                  obtain ⟨k, hk, rfl, hB⟩ := hrel
                  by_cases hkn : k < na
                  · obtain ⟨bx, rfl, hbx, hry⟩ := row_at HX8.out HNA.out hkn
                    obtain ⟨y, hy⟩ : ∃ y, t.asks.getD k default = y := ⟨_, rfl⟩
                    rw [hy] at hry
                    have hne : decide (y = x) = false := by
                      rw [decide_eq_false_iff_not]
                      rintro rfl
                      refine HXA.out ?_
                      rw [← hy]
                      have : k < t.asks.length := by rw [HNA.out]; exact hkn
                      simp [this]
                    obtain ⟨yl, hyl⟩ : ∃ yl, encS y = yl := ⟨_, rfl⟩
                    have hwy : wv y = .agg yl.toArray := by rw [← hyl]; rfl
                    have hi36 : (Try.prog.info? 35).map (·.size) = some yl.length := by rw [← hyl]; simpa using size35 y
                    have hi35 : (Try.prog.info? 35).map (·.size) = some il.length := by simpa using HI.out
                    have hu35 := Try.underlying35
                    rw [hyl] at hry
                    have SG2 : Hid (∀ w', Below w8.heap.size w8 w' → w'.rangeAt bx (k * 66) yl ∧ w'.rangeAt eb 0 il) := fun w' hw' =>
                      ⟨range_below hry hw' hbx, by have := (HE8.out.below hw' HE8.out.lt).range; simpa using this⟩
                    have HWY := Lib.hid hwy
                    have HNE := Lib.hid hne
                    clear hy hry hyl hwy hne hbx
                    go_wp2_with fail
                    refine wp_region_held_drew (S := (fun w' => Below w8.heap.size w8 w')) (by kernel_rfl) (below_dr hB) (fun hHeld => ?_)
                    clear hB
                    refine wpAnyH_take (i := 0) (v := .slice (some ⟨bx, 0, none⟩) na c) rfl (by kernel_rfl) (by kernel_rfl) (by kernel_rfl) (fun _ _ _ h => h) (Or.inl ⟨by rfl, fun w' hw' => by go_simp⟩) hHeld ?_
                    try simp only [Act.put, List.getElem_toArray, List.getElem_cons_succ, List.getElem_cons_zero, List.setIfInBounds_toArray, List.set_cons_zero, List.set_cons_succ]
                    refine wpAnyH_take (i := 1) (v := .int .i64 k) rfl (by kernel_rfl) (by kernel_rfl) (by kernel_rfl) (fun _ _ _ h => h) (Or.inl ⟨by rfl, fun w' hw' => by go_simp⟩) hHeld ?_
                    try simp only [Act.put, List.getElem_toArray, List.getElem_cons_succ, List.getElem_cons_zero, List.setIfInBounds_toArray, List.set_cons_zero, List.set_cons_succ]
                    refine wpAnyH_take (i := 2) (v := .pointer (some ⟨bx, k * 66, none⟩)) rfl (by kernel_rfl) (by kernel_rfl) (by kernel_rfl) (fun _ _ _ h => h) (Or.inl ⟨by rfl, fun w' hw' => by go_simp⟩) hHeld ?_
                    try simp only [Act.put, List.getElem_toArray, List.getElem_cons_succ, List.getElem_cons_zero, List.setIfInBounds_toArray, List.set_cons_zero, List.set_cons_succ]
                    refine wpAnyH_take (i := 3) (v := .agg yl.toArray) rfl (by kernel_rfl) (by kernel_rfl) (by kernel_rfl) (fun _ _ _ h => h) (Or.inl ⟨by rfl, fun w' hw' => by exact exec_load rfl rfl (run_loadAt_mid w' bx (k * 66) 35 yl _ (SG2.out w' hw').1 hu35 rfl hi36)⟩) hHeld ?_
                    try simp only [Act.put, List.getElem_toArray, List.getElem_cons_succ, List.getElem_cons_zero, List.setIfInBounds_toArray, List.set_cons_zero, List.set_cons_succ]
                    refine wpAnyH_take (i := 4) (v := .agg il.toArray) rfl (by kernel_rfl) (by kernel_rfl) (by kernel_rfl) (fun _ _ _ h => h) (Or.inl ⟨by rfl, fun w' hw' => by exact exec_load rfl rfl (run_loadAt_mid w' eb 0 35 il _ (SG2.out w' hw').2 hu35 rfl hi35)⟩) hHeld ?_
                    try simp only [Act.put, List.getElem_toArray, List.getElem_cons_succ, List.getElem_cons_zero, List.setIfInBounds_toArray, List.set_cons_zero, List.set_cons_succ]
                    refine wpAnyH_take (i := 5) (v := .bool false) rfl (by kernel_rfl) (by kernel_rfl) (by kernel_rfl) (fun _ _ _ h => h) (Or.inl ⟨by rfl, fun w' hw' => by exact exec_eql rfl rfl rfl HWY.out HWV.out false HNE.out w'⟩) hHeld ?_
                    try simp only [Act.put, List.getElem_toArray, List.getElem_cons_succ, List.getElem_cons_zero, List.setIfInBounds_toArray, List.set_cons_zero, List.set_cons_succ]
                    refine wpAnyH_done (by kernel_rfl) ?_ _
                    go_wp2_with fail
                    go_roundw
                    case rel => exact ⟨k + 1, by omega, by go_num, hHeld⟩
                    case measure => first | (simp [intOf]; done) | (simp [intOf]; omega)
                  · obtain rfl : k = na := by omega
                    have HB9 := Lib.hid hB
                    clear hB
                    go_wp2_with fail
                    go_loopw [23] (fun kv wr => ∃ k : Nat, k ≤ nl ∧ kv = .int .i64 k ∧ Below w8.heap.size w8 wr)
                      (fun kv _ => nl - (intOf kv).toNat)
                    case atStart => exact ⟨0, Nat.zero_le _, rfl, HB9.out⟩
                    case round =>
                      obtain ⟨k, hk, rfl, hB⟩ := hrel
                      by_cases hkn : k < nl
                      · obtain ⟨bx, rfl, hbx, hry⟩ := row_at HY8.out HNL.out hkn
                        obtain ⟨y, hy⟩ : ∃ y, t.lost.getD k default = y := ⟨_, rfl⟩
                        rw [hy] at hry
                        have hne : decide (y = x) = false := by
                          rw [decide_eq_false_iff_not]
                          rintro rfl
                          refine HXL.out ?_
                          rw [← hy]
                          have : k < t.lost.length := by rw [HNL.out]; exact hkn
                          simp [this]
                        obtain ⟨yl, hyl⟩ : ∃ yl, encS y = yl := ⟨_, rfl⟩
                        have hwy : wv y = .agg yl.toArray := by rw [← hyl]; rfl
                        have hi36 : (Try.prog.info? 35).map (·.size) = some yl.length := by rw [← hyl]; simpa using size35 y
                        have hi35 : (Try.prog.info? 35).map (·.size) = some il.length := by simpa using HI.out
                        have hu35 := Try.underlying35
                        rw [hyl] at hry
                        have SG2 : Hid (∀ w', Below w8.heap.size w8 w' → w'.rangeAt bx (k * 66) yl ∧ w'.rangeAt eb 0 il) := fun w' hw' =>
                          ⟨range_below hry hw' hbx, by have := (HE8.out.below hw' HE8.out.lt).range; simpa using this⟩
                        have HWY := Lib.hid hwy
                        have HNE := Lib.hid hne
                        clear hy hry hyl hwy hne hbx
                        go_wp2_with fail
                        refine wp_region_held_drew (S := (fun w' => Below w8.heap.size w8 w')) (by kernel_rfl) (below_dr hB) (fun hHeld => ?_)
                        clear hB
                        refine wpAnyH_take (i := 0) (v := .slice (some ⟨bx, 0, none⟩) nl c') rfl (by kernel_rfl) (by kernel_rfl) (by kernel_rfl) (fun _ _ _ h => h) (Or.inl ⟨by rfl, fun w' hw' => by go_simp⟩) hHeld ?_
                        try simp only [Act.put, List.getElem_toArray, List.getElem_cons_succ, List.getElem_cons_zero, List.setIfInBounds_toArray, List.set_cons_zero, List.set_cons_succ]
                        refine wpAnyH_take (i := 1) (v := .int .i64 k) rfl (by kernel_rfl) (by kernel_rfl) (by kernel_rfl) (fun _ _ _ h => h) (Or.inl ⟨by rfl, fun w' hw' => by go_simp⟩) hHeld ?_
                        try simp only [Act.put, List.getElem_toArray, List.getElem_cons_succ, List.getElem_cons_zero, List.setIfInBounds_toArray, List.set_cons_zero, List.set_cons_succ]
                        refine wpAnyH_take (i := 2) (v := .pointer (some ⟨bx, k * 66, none⟩)) rfl (by kernel_rfl) (by kernel_rfl) (by kernel_rfl) (fun _ _ _ h => h) (Or.inl ⟨by rfl, fun w' hw' => by go_simp⟩) hHeld ?_
                        try simp only [Act.put, List.getElem_toArray, List.getElem_cons_succ, List.getElem_cons_zero, List.setIfInBounds_toArray, List.set_cons_zero, List.set_cons_succ]
                        refine wpAnyH_take (i := 3) (v := .agg yl.toArray) rfl (by kernel_rfl) (by kernel_rfl) (by kernel_rfl) (fun _ _ _ h => h) (Or.inl ⟨by rfl, fun w' hw' => by exact exec_load rfl rfl (run_loadAt_mid w' bx (k * 66) 35 yl _ (SG2.out w' hw').1 hu35 rfl hi36)⟩) hHeld ?_
                        try simp only [Act.put, List.getElem_toArray, List.getElem_cons_succ, List.getElem_cons_zero, List.setIfInBounds_toArray, List.set_cons_zero, List.set_cons_succ]
                        refine wpAnyH_take (i := 4) (v := .agg il.toArray) rfl (by kernel_rfl) (by kernel_rfl) (by kernel_rfl) (fun _ _ _ h => h) (Or.inl ⟨by rfl, fun w' hw' => by exact exec_load rfl rfl (run_loadAt_mid w' eb 0 35 il _ (SG2.out w' hw').2 hu35 rfl hi35)⟩) hHeld ?_
                        try simp only [Act.put, List.getElem_toArray, List.getElem_cons_succ, List.getElem_cons_zero, List.setIfInBounds_toArray, List.set_cons_zero, List.set_cons_succ]
                        refine wpAnyH_take (i := 5) (v := .bool false) rfl (by kernel_rfl) (by kernel_rfl) (by kernel_rfl) (fun _ _ _ h => h) (Or.inl ⟨by rfl, fun w' hw' => by exact exec_eql rfl rfl rfl HWY.out HWV.out false HNE.out w'⟩) hHeld ?_
                        try simp only [Act.put, List.getElem_toArray, List.getElem_cons_succ, List.getElem_cons_zero, List.setIfInBounds_toArray, List.set_cons_zero, List.set_cons_succ]
                        refine wpAnyH_done (by kernel_rfl) ?_ _
                        go_wp2_with fail
                        go_roundw
                        case rel => exact ⟨k + 1, by omega, by go_num, hHeld⟩
                        case measure => first | (simp [intOf]; done) | (simp [intOf]; omega)
                      · obtain hkk : k = nl := by omega
                        have hd9 := HD8.out.below_ hB
                        have he9 := HE8.out.below hB HE8.out.lt
                        have HD9 := Lib.hid hd9
                        have HE9 := Lib.hid he9
                        clear hd9 he9 hB HD8 HE8
                        go_wp2_with fail
                        go_roundw
                        case rel => exact ⟨j2 + 1, t.P, t.s, by omega, by go_num, HD9.out, HE9.out, HXN.out, HUP.out, HLE.out⟩
                        case measure => first | (simp [intOf]; done) | (simp [intOf]; omega)
              · obtain rfl : j2 = 60 := by omega
                obtain rfl : E3 = [] := up_none (j := 31 - ((60 : Nat) : Int)) (by omega) hd.ht.ok hup
                have HB := Lib.hid hd.ht.below
                have h7 := hd_has hd x
                have h8 := fun w' (hw' : Below wr.heap.size wr w') => hd_open (hd.below_ hw') (by decide)
                rw [HWV.out, show (lk [] x).isSome = false from rfl] at h7
                have H7 := Lib.hid h7
                have H8 := Lib.hid h8
                have HR0 := Lib.hid he.range
                clear h7 h8 hd he
                go_wp2_with (first
                  | (refine wpList_unguard (by kernel_rfl) ?_; refine wpList_load_range 35 (.tmp 16) eb 0 il.toArray _ rfl rfl rfl Try.underlying35 rfl HI.out HR0.out ?_))
                refine H7.out.mono ?_
                rintro e w10 ⟨rfl, _, hB10⟩
                have h9 := H8.out w10 hB10
                have HB10 := Lib.hid hB10
                have H9 := Lib.hid h9
                clear hB10 h9 H7 H8
                go_wp2_with fail
                refine H9.out.mono ?_
                rintro e w11 ⟨B2, c2, rfl, _, hd11, _⟩
                have HB11 := Lib.hid hd11.ht.below
                clear hd11 H9
                go_wp2_with fail
                go_ret
                exact ⟨by first | rfl | simp, HB11.out⟩

set_option maxRecDepth 100000 in
theorem lifted (os : Os) (started : os.Started) (H : Type) (enc : TypeId × Value → H) :
    ReturnsInHanded {} Try.checked os 7 .any (Rows.fetchDoneSpec.pre6 enc Try.prog Try.f7 Rows.fetchDoneRow.domain false) (Rows.fetchDoneSpec.post enc Try.prog Try.f7 false true false false) := by
  refine returnsInHanded_of_change (C := Try.checked) own started (by kernel_rfl) Try.func7
    (ChangeSpec.witness6 (enc := enc) (C := Try.checked) false ⟨#[], #[.int .u64 0, .slice none 0 0, .int .u8 0, .int .u8 0], []⟩ 8 (by kernel_rfl) (by kernel_rfl) (by kernel_rfl) (by kernel_rfl)) ?_
  intro W base args ds gs before hval0 hW hcnd _
  have hval : ∀ (j : Nat) t v, Try.f7.params[j]? = some t → args[j]? = some v → Value.okWide Try.prog W .any base t v := hval0
  have hW' := hW
  obtain ⟨p, q, hA0, hV, rfl, hfz, hnd⟩ := hW
  have hA : DataW.TrodAll enc Try.prog W 0 (fun _ => true) true Try.f7.params.toList args.toList ds p := hA0
  rw [Try.params7] at hA hval
  obtain ⟨v0, vs0, d0, ds0, p0, q0, hargs, rfl, rfl, h0, r0⟩ := trodAll_cons hA
  obtain ⟨v1, vs1, d1, ds1, p1, q1, rfl, rfl, rfl, h1, r1⟩ := trodAll_cons r0
  obtain ⟨v2, vs2, d2, ds2, p2, q2, rfl, rfl, rfl, h2, r2⟩ := trodAll_cons r1
  obtain ⟨v3, vs3, d3, ds3, p3, q3, rfl, rfl, rfl, h3, r3⟩ := trodAll_cons r2
  obtain ⟨rfl, rfl, rfl⟩ := trodAll_nil r3
  obtain rfl : args = #[v0, v1, v2, v3] := by cases args; simp_all
  obtain ⟨rfl, rfl⟩ := trodVars_none hV
  obtain ⟨a0, rfl, rfl, rfl, w0⟩ := open_int Try.underlying22 (hval 0 22 v0 rfl rfl) h0
  obtain ⟨a1, len1, cap1, rfl⟩ := okWide_slice Try.underlying60 (hval 1 60 v1 rfl rfl)
  have k1 := h1
  have lt1 : ∀ x ∈ p1, x.block < W.heap.size := by obtain ⟨m, hm⟩ := k1; exact DataW.trod_lt m _ _ _ hm
  have w1 : IsKeys W a1 len1 cap1 := by
    obtain ⟨fuel, hf⟩ := h1
    exact open_keys hf
  obtain ⟨a2, rfl, rfl, rfl, w2⟩ := open_int Try.underlying5 (hval 2 5 v2 rfl rfl) h2
  obtain ⟨a3, rfl, rfl, rfl, w3⟩ := open_int Try.underlying5 (hval 3 5 v3 rfl rfl) h3
  clear hA0 hval0
  refine (walk a0 a1 len1 cap1 a2 a3 W w0 w1 w2 w3).mono fun e W' ⟨he, bel⟩ => ?_
  subst he
  exact ⟨_, rfl, _, _, _, [], _, [], hW', trodAll_mk1 (shut_bool Try.underlying4 _), (trodAll_cons_mk (shut_int Try.underlying22 w0) (trodAll_cons_mk (Below.trod laidOut (by kernel_rfl) (of_decide_eq_true (by kernel_rfl)) k1 bel lt1) (trodAll_cons_mk (shut_int Try.underlying5 w2) (trodAll_cons_mk (shut_int Try.underlying5 w3) trodAll_mk0)))), rfl, bel.frame _, fun h => by cases h⟩

theorem over : Rows.fetchDoneRow.holds Try.pinned (OpenSpec.ofChange Rows.fetchDoneSpec) :=
  OpenClaim.holds_of_wide 7 Try.f7 rfl rfl rfl rfl rfl rfl rfl ⟨rfl, rfl, rfl, rfl, rfl⟩ rfl rfl rfl rfl rfl (by kernel_rfl) Try.func7 (by kernel_rfl)
    (of_decide_eq_true (by kernel_rfl)) (by unfold Func.isWrapper; first | (rw [if_pos (by decide +kernel)]; kernel_rfl) | (rw [if_neg (by decide +kernel)]; exact ⟨rfl, rfl⟩))
    (fun os started H enc _ => lifted os started H enc)

theorem proved : Rows.FetchDoneSaid := over
#print axioms proved
end Go.Proofs.Ythjgmnafbikihaa.fetchDone
