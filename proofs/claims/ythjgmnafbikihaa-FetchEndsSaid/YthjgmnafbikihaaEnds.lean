/-
  FetchEnds: what isn't done is asked for as often as may be, and told once that it isn't waited for, within so many ticks, and can begin anew then; for every base, most, budget, seed and key, without conditions; what the caller can reach lies as it did.
-/
import Derived.Test.YthjgmnafbikihaaRows
import Derived.WalkKit
import Derived.ProofKit
import Derived.OpenShut
import Derived.ShutString
import Derived.ChangeOld
import Derived.Below
import Derived.Test.YthjgmnafbikihaaFt
namespace Go.Proofs.Ythjgmnafbikihaa.fetchEnds
open Go.ChangeShapes Go.WideShapes Go.ChangeAt Go.RowKit
open Go.ChangeMaps (open_string shut_string)
set_option linter.unusedVariables false
set_option linter.unusedSimpArgs false

theorem own : ownKnob Try.prog.godebug = none := by kernel_rfl
theorem laidOut : laidOutB Try.prog = true := by kernel_rfl

open Go.Sort Go.Maps in
theorem tick_gen (base most budget : Int) (x : WS) (tr lf s : Int) :
    tick base most budget [(x, (tr, lf))] s = if 0 < lf - 1 then ⟨[(x, (tr, lf - 1))], s, [], []⟩ else if tr = budget then ⟨[], s, [], [x]⟩ else ⟨[(x, (tr + 1, wait base most tr + belV s base))], belS s base, [x], []⟩ := by
  unfold tick
  simp only [List.foldl_cons, List.foldl_nil, tstep]
  by_cases h1 : 0 < lf - 1
  · simp only [if_pos h1]; rfl
  · by_cases h2 : tr = budget
    · simp only [if_neg h1, if_pos h2]; rfl
    · simp only [if_neg h1, if_neg h2]; rfl

set_option maxRecDepth 100000 in
set_option maxHeartbeats 2000000 in
theorem walk (a0 : Int) (a1 : Int) (a2 : Int) (a3 : Int) (x4 : KV) (w : World) (w0 : (Lit.int .u8 a0).wf = true) (w1 : (Lit.int .u8 a1).wf = true) (w2 : (Lit.int .u8 a2).wf = true) (w3 : (Lit.int .u64 a3).wf = true) :
    Calls Try.prog 3 #[.int .u8 a0, .int .u8 a1, .int .u8 a2, .int .u64 a3, .agg (kcells x4.1).toArray] w fun e w' => e = .returned (.bool true) ∧ Below w.heap.size w w' := by
  have b0 := bounds_u8 w0
  have b1 := bounds_u8 w1
  have b2 := bounds_u8 w2
  clear w0 w1 w2 w3
  obtain ⟨kl, hkl⟩ : ∃ kl, kcells x4.1 = kl := ⟨_, rfl⟩
  have hk33 : kl.length = 33 := by rw [← hkl]; exact kcells_length x4.2
  have hik : (Try.prog.info? 26).map (·.size) = some kl.toArray.size := by
    have h : (Try.prog.info? 26).map (·.size) = some 33 := by kernel_rfl
    rw [h]; simp [hk33]
  obtain ⟨il, hil⟩ : ∃ il, encS (wnow x4) = il := ⟨_, rfl⟩
  have hone := ones_enc (wnow x4)
  have hwv : wv (wnow x4) = .agg il.toArray := by rw [← hil]; rfl
  have hi35 : (Try.prog.info? 35).map (·.size) = some il.toArray.size := by rw [← hil]; exact size35 _
  have hs66 : il.toArray.size = 66 := by rw [← hil]; have := wcells_length (wnow x4).2; simpa [encS] using this
  rw [hil] at hone
  rw [hkl]
  have HKL := Lib.hid hkl
  have HIK := Lib.hid hik
  have HWV := Lib.hid hwv
  have HI := Lib.hid hi35
  have HONE := Lib.hid hone
  have hkr : (w.alloc (.cells kl.toArray 26)).rangeAt w.heap.size 0 kl := by simpa using (Blk.new w 26 kl.toArray).range
  have hkb : Below w.heap.size w (w.alloc (.cells kl.toArray 26)) := (Below.refl _ w).alloc (Nat.le_refl _) _
  have HKB0 := Lib.hid (Blk.new w 26 kl.toArray)
  have HB0 := Lib.hid hkb
  clear hwv hi35 hone hil hkl hik hkr hkb hk33
  go_enter Try.func3, Try.ntmps3
  go_wp2_with fail
  obtain ⟨W0, hW0⟩ : ∃ W0, W0 = w.alloc (.cells kl.toArray 26) := ⟨_, rfl⟩
  rw [← hW0] at HKB0 HB0 ⊢
  clear hW0
  refine (awake_any W0).mono ?_
  rintro e w1 ⟨rfl, B1⟩
  have HKB1 := Lib.hid (HKB0.out.below B1 HKB0.out.lt)
  have HB1 := Lib.hid (HB0.out.trans (B1.mono HB0.out.size))
  obtain ⟨kb, hkb⟩ : ∃ kb, kb = w.heap.size := ⟨_, rfl⟩
  rw [← hkb] at HKB0 HKB1 ⊢
  clear HKB0 HB0 B1 hkb
  go_wp2_with fail
  obtain ⟨bs, hbs⟩ : ∃ bs, bs = a0 % 8 + 1 := ⟨_, rfl⟩
  have c1 : 1 ≤ bs := by omega
  have c2 : bs ≤ 8 := by omega
  rw [← hbs]
  obtain ⟨mo, hmo⟩ : ∃ mo, mo = bs + a1 % 16 := ⟨_, rfl⟩
  have m1 : bs ≤ mo := by omega
  have m2 : mo ≤ 23 := by omega
  rw [← hmo]
  obtain ⟨bu, hbu⟩ : ∃ bu, bu = a2 % 8 + 1 := ⟨_, rfl⟩
  have n1 : 1 ≤ bu := by omega
  have n2 : bu ≤ 8 := by omega
  rw [← hbu]
  clear hbs hmo hbu b0 b1 b2
  have N0 : 0 ≤ bu * (mo + bs) := Int.mul_nonneg (by omega) (by omega)
  have N1 : bu * (mo + bs) ≤ 248 := by
    calc bu * (mo + bs) ≤ 8 * (mo + bs) := Int.mul_le_mul_of_nonneg_right n2 (by omega)
      _ ≤ 248 := by omega
  refine (ht_new w w1 bs mo bu HB1.out (by unfold newOk; omega)).mono ?_
  rintro e w2 ⟨g, b, rfl, ht, hB2⟩
  have HKB2 := Lib.hid (HKB1.out.below hB2 HKB1.out.lt)
  have D2 := Lib.hid (ht_dice ht a3)
  clear ht hB2 HB1 HKB1
  go_wp2_with fail
  refine D2.out.mono ?_
  rintro e w3 ⟨d, rfl, hd, hB3, q1⟩
  have HKB3 := HKB2.out.below hB3 HKB2.out.lt
  have HKR := Lib.hid HKB3.range
  have HD3 := Lib.hid hd
  clear HKB2 HKB3 hd hB3 q1 D2
  obtain ⟨z35, hzs, hzv⟩ := zero_agg zinfo35 (by decide)
  go_wp2_with (first
    | (refine wpList_load_range 26 (.tmp 9) kb 0 kl.toArray _ rfl rfl rfl Try.underlying26 rfl HIK.out HKR.out ?_)
    | (refine wpList_build_now (.tmp 53) x4 rfl rfl (by rw [HKL.out]; rfl) ?_; rw [HWV.out])
    | (refine wpList_store_blk 35 (.tmp 18) (.tmp 54) w3.heap.size _ il.toArray rfl rfl rfl rfl HI.out (Blk.new _ _ _) (by rw [hs66, hzs]) HONE.out ?_))
  intro v0 kb0 kg0 _
  have hBv : Below w3.heap.size w3 v0 := (((Below.refl _ w3).alloc (Nat.le_refl _) _).grown kg0 (by simp) (fun j e => by injection e with e; omega))
  have hd0 := HD3.out.below_ hBv
  have heb : b ≠ w3.heap.size := by have := HD3.out.ht.tb.tab.lt; omega
  have hed : w3.heap.size ≠ d := by have := HD3.out.die.lt; omega
  obtain ⟨eb, hebq⟩ : ∃ eb, eb = w3.heap.size := ⟨_, rfl⟩
  rw [← hebq] at heb hed kb0 ⊢
  have HD0 := Lib.hid hd0
  have HE0 := Lib.hid kb0
  clear hd0 kb0 kg0 hBv hebq HD3 HKR hzv hzs HONE HIK HKL
  obtain ⟨x, hx⟩ : ∃ x, wnow x4 = x := ⟨_, rfl⟩
  rw [hx] at HWV
  clear hx z35
  go_wp2_with fail
  go_loopw [19, 20, 21, 22, 23, 24, 25] (fun av _ _ _ _ _ _ wr => ∃ (r : Nat) (s : Int), r ≤ 2 ∧ av = .int .i64 r ∧ HD w wr g b d bs mo bu [] s ∧ Blk wr eb 35 il.toArray)
    (fun av _ _ _ _ _ _ _ => 2 - (intOf av).toNat)
  case atStart => exact ⟨0, a3, by omega, rfl, HD0.out, HE0.out⟩
  case round =>
    clear HD0 HE0
    obtain ⟨r, s, hr, rfl, hd, he⟩ := hrel
    by_cases hlt : r < 2
    · have h1 := hd_start hd (by decide) x
      rw [HWV.out, show (!(lk [] x).isSome) = true from rfl, show stE [] x = [(x, (0, 1))] from rfl] at h1
      have H1 := Lib.hid h1
      have HE := Lib.hid he
      have hr0 := he.range
      have HR0 := Lib.hid hr0
      clear h1 hd he hr0
      go_wp2_with (refine wpList_load_range 35 (.tmp 18) eb 0 il.toArray _ rfl rfl rfl Try.underlying35 rfl HI.out HR0.out ?_)
      refine H1.out.mono ?_
      rintro e w4 ⟨rfl, hd4, hg4⟩
      have he4 := HE.out.grown hg4 (fun e => heb (by injection e with e; exact e.symm))
      have HD4 := Lib.hid hd4
      have HE4 := Lib.hid he4
      clear hd4 he4 hg4 H1 HE HR0
      go_wp2_with fail
      go_loopw [20, 21, 22, 23, 24, 25] (fun kv gv lv iv _ _ wi => ∃ (i k l s : Int), iv = .int .i64 i ∧ kv = .int .i64 k ∧ lv = .int .i64 l ∧ 1 ≤ i ∧ i ≤ bu * (mo + bs) + 2 ∧ Blk wi eb 35 il.toArray ∧
          ((∃ lf, gv = .int .i64 0 ∧ HD w wi g b d bs mo bu [(x, (k, lf))] s ∧ 0 ≤ k ∧ k ≤ bu ∧ 1 ≤ lf ∧ ((k = 0 ∧ l = 0 ∧ i = 1 ∧ lf = 1) ∨ (1 ≤ k ∧ 1 ≤ l ∧ l < i ∧ (i - l) + lf ≤ mo + bs ∧ l + (mo + bs) ≤ 1 + k * (mo + bs)))) ∨
           (gv = .int .i64 1 ∧ HD w wi g b d bs mo bu [] s ∧ k = bu ∧ 1 ≤ l)))
        (fun _ _ _ iv _ _ _ => 300 - (intOf iv).toNat)
      case atStart => exact ⟨1, 0, 0, s, rfl, rfl, rfl, by omega, by omega, HE4.out, .inl ⟨1, rfl, HD4.out, by omega, by omega, by omega, .inl ⟨rfl, rfl, rfl, rfl⟩⟩⟩
      case round =>
        clear HD4 HE4
        obtain ⟨i, k, l, s2, rfl, rfl, rfl, i1, i2, he, hcase⟩ := hrel
        by_cases hin : i ≤ 1 + bu * (mo + bs)
        · rcases hcase with ⟨lf, rfl, hd, k0, k1, lf1, hinv⟩ | ⟨rfl, hd, rfl, l1⟩
          · have htk := tick_gen bs mo bu x k lf s2
            by_cases h1 : 0 < lf - 1
            · rw [if_pos h1] at htk
              rcases hinv with ⟨_, _, _, q⟩ | ⟨v1, v2, v3, v4, v5⟩
              · omega
              · have hc := hd_tick hd (by simp) _ htk
                simp only [List.length_nil, List.length_cons] at hc
                have HC := Lib.hid hc
                have HE := Lib.hid he
                clear hc hd he htk
                go_wp2_with fail
                refine HC.out.mono ?_
                rintro e w5 ⟨A, cc, A', c', m, rfl, q1, q2, q3, hd5, h25⟩
                have he5 := h25.blk HE.out (fun e => heb e.symm) hed
                have HD5 := Lib.hid hd5
                have HE5 := Lib.hid he5
                clear hd5 he5 h25 q1 q2 q3 HC HE
                go_wp2_with fail
                go_roundw
                case rel =>
                  exact ⟨i + 1, k, l, s2, by go_num, rfl, rfl, by omega, by omega, HE5.out, .inl ⟨lf - 1, by go_num, HD5.out, k0, k1, by omega, .inr ⟨v1, v2, by omega, by omega, v5⟩⟩⟩
                case measure => first | (simp [intOf]; done) | (simp [intOf]; omega)
            · by_cases h2 : k = bu
              · rw [if_neg h1, if_pos h2] at htk
                have v2 : 1 ≤ l := by rcases hinv with ⟨q, _⟩ | ⟨_, q, _⟩ <;> omega
                have hbk : bu = k := h2.symm
                subst hbk
                have hc := hd_tick hd (by simp) _ htk
                simp only [List.length_nil, List.length_cons] at hc
                have HC := Lib.hid hc
                have HE := Lib.hid he
                clear hc hd he htk
                go_wp2_with fail
                refine HC.out.mono ?_
                rintro e w5 ⟨A, cc, A', c', m, rfl, q1, q2, q3, hd5, h25⟩
                have he5 := h25.blk HE.out (fun e => heb e.symm) hed
                have HD5 := Lib.hid hd5
                have HE5 := Lib.hid he5
                clear hd5 he5 h25 q1 q2 q3 HC HE
                go_wp2_with fail
                go_roundw
                case rel =>
                  exact ⟨i + 1, bu, l, s2, by go_num, rfl, rfl, by omega, by omega, HE5.out, .inr ⟨by go_num, HD5.out, rfl, v2⟩⟩
                case measure => first | (simp [intOf]; done) | (simp [intOf]; omega)
              · rw [if_neg h1, if_neg h2] at htk
                have hw := wait_le (tr := k) c1 m1
                have hv := belV_lt (s := s2) c1
                have hkT : (k + 1) * (mo + bs) = k * (mo + bs) + (mo + bs) := by rw [Int.add_mul, Int.one_mul]
                have HKT := Lib.hid hkT
                clear hkT
                generalize wait bs mo k = wt at htk hw
                generalize belV s2 bs = bv at htk hv
                rcases hinv with ⟨rfl, rfl, rfl, rfl⟩ | ⟨v1, v2, v3, v4, v5⟩
                · have hc := hd_tick hd (by simp) _ htk
                  simp only [List.length_nil, List.length_cons] at hc
                  have HC := Lib.hid hc
                  have HE := Lib.hid he
                  clear hc hd he htk
                  go_wp2_with fail
                  refine HC.out.mono ?_
                  rintro e w5 ⟨A, cc, A', c', m, rfl, q1, q2, q3, hd5, h25⟩
                  have he5 := h25.blk HE.out (fun e => heb e.symm) hed
                  have HD5 := Lib.hid hd5
                  have HE5 := Lib.hid he5
                  clear hd5 he5 h25 q1 q2 q3 HC HE
                  go_wp2_with fail
                  go_roundw
                  case rel =>
                    refine ⟨1 + 1, 0 + 1, 1, belS s2 bs, by go_num, by go_num, rfl, by omega, by omega, HE5.out, .inl ⟨wt + bv, by go_num, HD5.out, by omega, by omega, by omega, .inr ⟨by omega, by omega, by omega, by omega, ?_⟩⟩⟩
                    rw [HKT.out]; omega
                  case measure => first | (simp [intOf]; done) | (simp [intOf]; omega)
                · have hc := hd_tick hd (by simp) _ htk
                  simp only [List.length_nil, List.length_cons] at hc
                  have HC := Lib.hid hc
                  have HE := Lib.hid he
                  clear hc hd he htk
                  go_wp2_with fail
                  refine HC.out.mono ?_
                  rintro e w5 ⟨A, cc, A', c', m, rfl, q1, q2, q3, hd5, h25⟩
                  have he5 := h25.blk HE.out (fun e => heb e.symm) hed
                  have HD5 := Lib.hid hd5
                  have HE5 := Lib.hid he5
                  clear hd5 he5 h25 q1 q2 q3 HC HE
                  go_wp2_with fail
                  go_roundw
                  case rel =>
                    refine ⟨i + 1, k + 1, i, belS s2 bs, by go_num, by go_num, rfl, by omega, by omega, HE5.out, .inl ⟨wt + bv, by go_num, HD5.out, by omega, by omega, by omega, .inr ⟨by omega, by omega, by omega, by omega, ?_⟩⟩⟩
                    rw [HKT.out]; omega
                  case measure => first | (simp [intOf]; done) | (simp [intOf]; omega)
          · have htk : tick bs mo k [] s2 = ⟨[], s2, [], []⟩ := rfl
            have hc := hd_tick hd (by simp) _ htk
            simp only [List.length_nil, List.length_cons] at hc
            have HC := Lib.hid hc
            have HE := Lib.hid he
            clear hc hd he htk
            go_wp2_with fail
            refine HC.out.mono ?_
            rintro e w5 ⟨A, cc, A', c', m, rfl, q1, q2, q3, hd5, h25⟩
            have he5 := h25.blk HE.out (fun e => heb e.symm) hed
            have HD5 := Lib.hid hd5
            have HE5 := Lib.hid he5
            clear hd5 he5 h25 q1 q2 q3 HC HE
            go_wp2_with fail
            go_roundw
            case rel =>
              exact ⟨i + 1, k, l, s2, by go_num, rfl, rfl, by omega, by omega, HE5.out, .inr ⟨by go_num, HD5.out, rfl, l1⟩⟩
            case measure => first | (simp [intOf]; done) | (simp [intOf]; omega)
        · rcases hcase with ⟨lf, rfl, hd, k0, k1, lf1, hinv⟩ | ⟨rfl, hd, rfl, l1⟩
          · exfalso
            have hkb : k * (mo + bs) ≤ bu * (mo + bs) := Int.mul_le_mul_of_nonneg_right k1 (by omega)
            rcases hinv with ⟨_, _, q, _⟩ | ⟨v1, v2, v3, v4, v5⟩ <;> omega
          · have hr0 := he.range
            have h6 := hd_has hd x
            rw [HWV.out, show (lk [] x).isSome = false from rfl] at h6
            have H6 := Lib.hid h6
            have HR0 := Lib.hid hr0
            have HE := Lib.hid he
            clear h6 hr0 he hd
            go_wp2_with (first
              | (refine wpList_unguard (by kernel_rfl) ?_; refine wpList_load_range 35 (.tmp 18) eb 0 il.toArray _ rfl rfl rfl Try.underlying35 rfl HI.out HR0.out ?_))
            refine H6.out.mono ?_
            rintro e w6 ⟨rfl, hd6, hB6⟩
            have HE6 := Lib.hid (HE.out.below hB6 HE.out.lt)
            have HD6 := Lib.hid hd6
            clear hd6 hB6 H6 HR0 HE
            go_wp2_with fail
            go_roundw
            case rel => exact ⟨r + 1, s2, by omega, by go_num, HD6.out, HE6.out⟩
            case measure => first | (simp [intOf]; done) | (simp [intOf]; omega)
    · obtain rfl : r = 2 := by omega
      have HB := Lib.hid hd.ht.below
      clear hd he
      go_wp2_with fail
      go_ret
      exact ⟨rfl, HB.out⟩

set_option maxRecDepth 100000 in
theorem lifted (os : Os) (started : os.Started) (H : Type) (enc : TypeId × Value → H) :
    ReturnsInHanded {} Try.checked os 3 .any (Rows.fetchEndsSpec.pre6 enc Try.prog Try.f3 Rows.fetchEndsRow.domain false) (Rows.fetchEndsSpec.post enc Try.prog Try.f3 false true false false) := by
  refine returnsInHanded_of_change (C := Try.checked) own started (by kernel_rfl) Try.func3
    (ChangeSpec.witness6 (enc := enc) (C := Try.checked) false ⟨#[], #[.int .u8 0, .int .u8 0, .int .u8 0, .int .u64 0, (.agg (kcells zeroK).toArray)], []⟩ 8 (by kernel_rfl) (by kernel_rfl) (by kernel_rfl) (by kernel_rfl)) ?_
  intro W base args ds gs before hval0 hW hcnd _
  have hval : ∀ (j : Nat) t v, Try.f3.params[j]? = some t → args[j]? = some v → Value.okWide Try.prog W .any base t v := hval0
  have hW' := hW
  obtain ⟨p, q, hA0, hV, rfl, hfz, hnd⟩ := hW
  have hA : DataW.TrodAll enc Try.prog W 0 (fun _ => true) true Try.f3.params.toList args.toList ds p := hA0
  rw [Try.params3] at hA hval
  obtain ⟨v0, vs0, d0, ds0, p0, q0, hargs, rfl, rfl, h0, r0⟩ := trodAll_cons hA
  obtain ⟨v1, vs1, d1, ds1, p1, q1, rfl, rfl, rfl, h1, r1⟩ := trodAll_cons r0
  obtain ⟨v2, vs2, d2, ds2, p2, q2, rfl, rfl, rfl, h2, r2⟩ := trodAll_cons r1
  obtain ⟨v3, vs3, d3, ds3, p3, q3, rfl, rfl, rfl, h3, r3⟩ := trodAll_cons r2
  obtain ⟨v4, vs4, d4, ds4, p4, q4, rfl, rfl, rfl, h4, r4⟩ := trodAll_cons r3
  obtain ⟨rfl, rfl, rfl⟩ := trodAll_nil r4
  obtain rfl : args = #[v0, v1, v2, v3, v4] := by cases args; simp_all
  obtain ⟨rfl, rfl⟩ := trodVars_none hV
  obtain ⟨a0, rfl, rfl, rfl, w0⟩ := open_int Try.underlying5 (hval 0 5 v0 rfl rfl) h0
  obtain ⟨a1, rfl, rfl, rfl, w1⟩ := open_int Try.underlying5 (hval 1 5 v1 rfl rfl) h1
  obtain ⟨a2, rfl, rfl, rfl, w2⟩ := open_int Try.underlying5 (hval 2 5 v2 rfl rfl) h2
  obtain ⟨a3, rfl, rfl, rfl, w3⟩ := open_int Try.underlying22 (hval 3 22 v3 rfl rfl) h3
  obtain ⟨cs4, rfl, sz4⟩ := okWide_struct Try.underlying26 (hval 4 26 v4 rfl rfl)
  have k4 := h4
  have lt4 : ∀ x ∈ p4, x.block < W.heap.size := by obtain ⟨m, hm⟩ := k4; exact DataW.trod_lt m _ _ _ hm
  obtain ⟨x4, w4⟩ : ∃ x : KV, cs4 = (kcells x.1).toArray := by
    obtain ⟨fuel, hf⟩ := h4
    exact open_kv sz4 hf
  subst w4
  clear hA0 hval0
  refine (walk a0 a1 a2 a3 x4 W w0 w1 w2 w3).mono fun e W' ⟨he, bel⟩ => ?_
  subst he
  exact ⟨_, rfl, _, _, _, [], _, [], hW', trodAll_mk1 (shut_bool Try.underlying4 _), (trodAll_cons_mk (shut_int Try.underlying5 w0) (trodAll_cons_mk (shut_int Try.underlying5 w1) (trodAll_cons_mk (shut_int Try.underlying5 w2) (trodAll_cons_mk (shut_int Try.underlying22 w3) (trodAll_cons_mk (Below.trod laidOut (by kernel_rfl) (of_decide_eq_true (by kernel_rfl)) k4 bel lt4) trodAll_mk0))))), rfl, bel.frame _, fun h => by cases h⟩

theorem over : Rows.fetchEndsRow.holds Try.pinned (OpenSpec.ofChange Rows.fetchEndsSpec) :=
  OpenClaim.holds_of_wide 3 Try.f3 rfl rfl rfl rfl rfl rfl rfl ⟨rfl, rfl, rfl, rfl, rfl⟩ rfl rfl rfl rfl rfl (by kernel_rfl) Try.func3 (by kernel_rfl)
    (of_decide_eq_true (by kernel_rfl)) (by unfold Func.isWrapper; first | (rw [if_pos (by decide +kernel)]; kernel_rfl) | (rw [if_neg (by decide +kernel)]; exact ⟨rfl, rfl⟩))
    (fun os started H enc _ => lifted os started H enc)

theorem proved : Rows.FetchEndsSaid := over
#print axioms proved
end Go.Proofs.Ythjgmnafbikihaa.fetchEnds
