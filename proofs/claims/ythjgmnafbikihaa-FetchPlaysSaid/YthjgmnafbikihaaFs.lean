/-
  Fetch: the document's example.
-/
import Derived.Test.YthjgmnafbikihaaFr
set_option linter.unusedSimpArgs false
set_option linter.unusedVariables false
namespace Go.Proofs.Ythjgmnafbikihaa
open Go.RowKit Go.Maps Go.Sort

/-- how the example stands behind so many ticks: the want, the sum, when it was lost. -/
def cw : Nat → Option St × Int × Int
  | 0 => (some (0, 1), 0, 0)
  | i + 1 => ((o1 4 5 (cw i).1).1, if (o1 4 5 (cw i).1).2.1 then (cw i).2.1 + (i + 1 : Nat) else (cw i).2.1, if (o1 4 5 (cw i).1).2.2 then ((i + 1 : Nat) : Int) else (cw i).2.2)
theorem cw_end : cw 16 = (none, 27, 16) := by decide
theorem cw_nn (i : Nat) : 0 ≤ (cw i).2.1 ∧ (cw i).2.1 ≤ i * i ∧ 0 ≤ (cw i).2.2 ∧ (cw i).2.2 ≤ i := by
  induction i with
  | zero => decide
  | succ i ih =>
    obtain ⟨h1, h2, h3, h4⟩ := ih
    have e : ((i + 1 : Nat) : Int) * ((i + 1 : Nat) : Int) = (i : Int) * i + 2 * i + 1 := by
      rw [Int.natCast_add]; simp only [Int.natCast_one, Int.add_mul, Int.mul_add, Int.one_mul, Int.mul_one]; omega
    simp only [cw]
    rw [e]
    refine ⟨?_, ?_, ?_, ?_⟩
    · split <;> omega
    · split <;> omega
    · split <;> omega
    · split <;> omega
def wx : WS := wnow ⟨(3, List.replicate 32 0), by decide, by simp, fun z hz => by rw [(List.mem_replicate.1 hz).2]; decide⟩

set_option maxRecDepth 100000 in
set_option maxHeartbeats 4000000 in
theorem awake_any (w : World) : Calls Try.prog 8 #[] w fun e w' => e = .returned (.bool true) ∧ Below w.heap.size w w' := by
  have hN : newOk 1 4 5 := by unfold newOk; omega
  have HNW := Lib.hid (ht_new w w 1 4 5 (Below.refl _ w) hN)
  clear hN
  obtain ⟨kx, hkx⟩ : ∃ k : { k : K // IsK k }, k.1 = (3, List.replicate 32 0) ∧ wx = wnow k := ⟨_, rfl, rfl⟩
  have hkc : (.agg (kcells kx.1).toArray : Value) = .agg #[.int .u64 3, .int .u8 0, .int .u8 0, .int .u8 0, .int .u8 0, .int .u8 0, .int .u8 0, .int .u8 0, .int .u8 0, .int .u8 0, .int .u8 0, .int .u8 0, .int .u8 0, .int .u8 0, .int .u8 0, .int .u8 0, .int .u8 0, .int .u8 0, .int .u8 0, .int .u8 0, .int .u8 0, .int .u8 0, .int .u8 0, .int .u8 0, .int .u8 0, .int .u8 0, .int .u8 0, .int .u8 0, .int .u8 0, .int .u8 0, .int .u8 0, .int .u8 0, .int .u8 0] := by rw [hkx.1]; rfl
  have HKC := Lib.hid hkc
  have HKX := Lib.hid hkx.2
  clear hkc hkx
  obtain ⟨il, hil⟩ : ∃ il, encS (wnow kx) = il := ⟨_, rfl⟩
  have hone := ones_enc (wnow kx)
  have hwv : wv (wnow kx) = .agg il.toArray := by rw [← hil]; rfl
  have hi35 : (Try.prog.info? 35).map (·.size) = some il.toArray.size := by rw [← hil]; exact size35 _
  have hs66 : il.toArray.size = 66 := by rw [← hil]; have := wcells_length (wnow kx).2; simpa [encS] using this
  rw [hil] at hone
  have HWV := Lib.hid hwv
  have HI := Lib.hid hi35
  have HONE := Lib.hid hone
  clear hwv hi35 hone hil
  go_enter Try.func8, Try.ntmps8
  go_wp2_with fail
  refine HNW.out.mono ?_
  rintro e w1 ⟨g, b, rfl, ht1, hB1⟩
  have HT1 := Lib.hid ht1
  clear ht1 HNW
  have hz26 := Try.zeroValue26
  obtain ⟨z35, hzs, hzv⟩ := zero_agg zinfo35 (by decide)
  go_wp2_with (first
    | (refine wpList_build_now (.tmp 22) kx rfl rfl HKC.out.symm ?_; rw [HWV.out])
    | (refine wpList_store_blk 35 (.tmp 3) (.tmp 23) w1.heap.size _ il.toArray rfl rfl rfl rfl HI.out (Blk.new _ _ _) (by rw [hs66, hzs]) HONE.out ?_))
  intro v0 kb0 kg0 _
  have hBv : Below w1.heap.size w1 v0 := (((Below.refl _ w1).alloc (Nat.le_refl _) _).grown kg0 (by simp) (fun j e => by injection e with e; omega))
  have h2 := HT1.out.below_ hBv
  have hbl := h2.tb.tab.lt
  have heb : b ≠ w1.heap.size := by have := HT1.out.tb.tab.lt; omega
  have hr0 := kb0.range
  have c1 := ht_start h2 (by decide) (wnow kx)
  rw [HWV.out, show (!(lk [] (wnow kx)).isSome) = true from rfl, show stE [] (wnow kx) = toE (wnow kx) (some (0, 1)) from rfl] at c1
  have C1 := Lib.hid c1
  have HKB := Lib.hid kb0
  have HR0 := Lib.hid hr0
  clear c1 h2 hBv hbl HT1 hr0 kb0 kg0 hzv HKC hz26
  obtain ⟨eb, hebq⟩ : ∃ eb, eb = w1.heap.size := ⟨_, rfl⟩
  rw [← hebq] at heb HKB HR0 ⊢
  clear hebq
  go_wp2_with (refine wpList_load_range 35 (.tmp 3) eb 0 il.toArray _ rfl rfl rfl Try.underlying35 rfl HI.out HR0.out ?_)
  refine C1.out.mono ?_
  rintro e w2 ⟨rfl, ht2, hg2⟩
  have hb2 := HKB.out.grown hg2 (fun e => heb (by injection e with e; exact e.symm))
  have hr2 := hb2.range
  have c2 := ht_start ht2 (show 1 < maxLen by decide) (wnow kx)
  have hlk : (lk (toE (wnow kx) (some (0, 1))) (wnow kx)).isSome = true := by rw [lk_toE]; rfl
  rw [HWV.out, hlk, show stE (toE (wnow kx) (some (0, 1))) (wnow kx) = toE (wnow kx) (some (0, 1)) by rw [stE, if_pos hlk]] at c2
  have C2 := Lib.hid c2
  have HB2 := Lib.hid hb2
  have HR2 := Lib.hid hr2
  clear c2 hb2 hr2 ht2 hg2 HKB C1 HR0 hlk
  go_wp2_with (refine wpList_load_range 35 (.tmp 3) eb 0 il.toArray _ rfl rfl rfl Try.underlying35 rfl HI.out HR2.out ?_)
  refine C2.out.mono ?_
  rintro e w3 ⟨rfl, ht3, hg3⟩
  have hb3 := HB2.out.grown hg3 (fun e => heb (by injection e with e; exact e.symm))
  have C3 := Lib.hid (ht_dice ht3 1)
  have HB3 := Lib.hid hb3
  have hel := hb3.lt
  clear hb3 ht3 hg3 HB2 C2 HR2
  go_wp2_with fail
  refine C3.out.mono ?_
  rintro e w4 ⟨d, rfl, hd4, hB4, hdw⟩
  have hb4 := HB3.out.below hB4 hel
  have hed : eb ≠ d := by omega
  have HD4 := Lib.hid hd4
  have HB4 := Lib.hid hb4
  clear C3 hd4 hB4 hb4 HB3 hdw hel HONE hzs z35
  go_wp2_with fail
  go_loopw [7, 8, 9, 10, 11] (fun nv gv iv _ _ wr => ∃ i : Nat, i ≤ 16 ∧ iv = .int .i64 ((i : Int) + 1) ∧ nv = .int .i64 (cw i).2.1 ∧ gv = .int .i64 (cw i).2.2 ∧ HD w wr g b d 1 4 5 (toE (wnow kx) (cw i).1) 1 ∧ Blk wr eb 35 il.toArray)
    (fun _ _ iv _ _ _ => 17 - (intOf iv).toNat)
  case atStart => exact ⟨0, by omega, rfl, rfl, rfl, HD4.out, HB4.out⟩
  case round =>
    clear HD4 HB4
    obtain ⟨i, hi16, rfl, rfl, rfl, hd, hb⟩ := hrel
    by_cases hlt : i < 16
    · obtain ⟨v1, v2, v3, v4⟩ := cw_nn i
      have hii : (i : Int) * i ≤ 256 := by
        have : i * i ≤ 16 * 16 := Nat.mul_le_mul (by omega) (by omega)
        exact_mod_cast this
      have hcw : Hid (cw (i + 1) = ((o1 4 5 (cw i).1).1, if (o1 4 5 (cw i).1).2.1 then (cw i).2.1 + (i + 1 : Nat) else (cw i).2.1, if (o1 4 5 (cw i).1).2.2 then ((i + 1 : Nat) : Int) else (cw i).2.2)) := rfl
      have hlen : (toE (wnow kx) (cw i).1).length ≤ 1000 := by cases (cw i).1 <;> simp [toE]
      have htk := tick_one 4 5 (wnow kx) (cw i).1 1
      have hc := hd_tick hd hlen _ htk
      have hel := hb.lt
      generalize cw i = q at hd hb hcw htk hc v1 v2 v3 v4
      obtain ⟨o, nn, gg⟩ := q
      simp only at hcw hc v1 v2 v3 v4
      generalize o1 4 5 o = r at hcw hc
      obtain ⟨o', ba, bl⟩ := r
      simp only at hcw hc
      have HC := Lib.hid hc
      have HB := Lib.hid hb
      clear hd hb htk hc hlen
      go_wp2_with fail
      refine HC.out.mono ?_
      rintro e w5 ⟨A, c, A', c', m, rfl, _, _, _, hd5, h25⟩
      have hb5 := h25.blk HB.out (fun e => heb e.symm) hed
      have HD5 := Lib.hid hd5
      have HB5 := Lib.hid hb5
      clear hd5 h25 hb5 HC HB
      cases ba <;> cases bl
      all_goals simp only [if_true, if_false, Bool.false_eq_true, List.length_cons, List.length_nil]
      all_goals go_wp2_with fail
      all_goals go_roundw
      all_goals first
        | (refine ⟨i + 1, by omega, by go_num, ?_, ?_, ?_, HB5.out⟩
           · rw [hcw.out]; first | rfl | (simp; done) | (simp; omega)
           · rw [hcw.out]; first | rfl | (simp; done) | (simp; omega)
           · rw [hcw.out]; exact HD5.out)
        | (simp [intOf]; omega)
    · obtain rfl : i = 16 := by omega
      rw [cw_end] at hd ⊢
      have hr := hb.range
      have c6 := hd_has hd (wnow kx)
      rw [HWV.out, lk_toE, show (none : Option St).isSome = false from rfl] at c6
      have C6 := Lib.hid c6
      have HR := Lib.hid hr
      clear hd hb c6 hr
      go_wp2_with (first
        | (refine wpList_unguard (by kernel_rfl) ?_; refine wpList_load_range 35 (.tmp 3) eb 0 il.toArray _ rfl rfl rfl Try.underlying35 rfl HI.out HR.out ?_))
      refine C6.out.mono ?_
      rintro e w6 ⟨rfl, hd6, _⟩
      have HB6 := Lib.hid hd6.ht.below
      clear hd6 C6
      go_wp2_with fail
      go_ret
      exact ⟨rfl, HB6.out⟩
end Go.Proofs.Ythjgmnafbikihaa
