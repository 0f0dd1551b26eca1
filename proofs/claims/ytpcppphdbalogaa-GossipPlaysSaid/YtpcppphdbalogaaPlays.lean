/-
  Gossip: whoever is there, whom it tells, step by step, is the document's.
-/
import Derived.Test.YtpcppphdbalogaaRows
import Derived.WalkKit
import Derived.ProofKit
import Derived.OpenShut
import Derived.ShutString
import Derived.ChangeOld
import Derived.Below
import Derived.Test.YtpcppphdbalogaaHh
import Derived.Test.YtpcppphdbalogaaBq
namespace Go.Proofs.Ytpcppphdbalogaa.gossipPlays
open Go.ChangeShapes Go.WideShapes Go.ChangeAt Go.RowKit
open Go.ChangeMaps (open_string shut_string)
set_option linter.unusedVariables false

theorem own : ownKnob Try.prog.godebug = none := by kernel_rfl
theorem laidOut : laidOutB Try.prog = true := by kernel_rfl

theorem bthen {w a b : World} (h : Below w.heap.size w a) (k : Below a.heap.size a b) : Below w.heap.size w b := h.trans (k.mono h.size)
set_option maxRecDepth 100000 in
set_option maxHeartbeats 4000000 in
theorem walk (a0 : Int) (a1 : Int) (a2 : Int) (a3 : Int) (a4 : Option Addr) (len4 cap4 : Nat) (w : World) (w0 : (Lit.int .i64 a0).wf = true) (w1 : (Lit.int .i64 a1).wf = true) (w2 : (Lit.int .i64 a2).wf = true) (w3 : (Lit.int .u64 a3).wf = true) (w4 : IsActs w a4 len4 cap4) :
    Calls Try.prog 3 #[.int .i64 a0, .int .i64 a1, .int .i64 a2, .int .u64 a3, .slice a4 len4 cap4] w fun e w' => e = .returned (.bool true) ∧ Below w.heap.size w w' := by
  have hlc : (len4 : Int) ≤ 9223372036854775807 := by have h1 := w4.1; have h2 := w4.2.1; unfold maxLen at h2; omega
  have HA := Lib.hid w4
  clear w0 w1 w2 w3 w4
  have HC := Lib.hid hlc
  clear hlc
  go_enter Try.func3, Try.ntmps3
  go_wp2_with fail
  refine (awake_any _).mono ?_
  rintro e w1 ⟨rfl, B1⟩
  have HB1 := Lib.hid B1
  by_cases hok : newOk a0 a1 a2
  · obtain ⟨m, rfl⟩ : ∃ m : Nat, a1 = (m : Int) := ⟨a1.toNat, by unfold newOk at hok; omega⟩
    have hm : m ≤ 64 := by unfold newOk at hok; omega
    have HOK := Lib.hid hok
    clear hok B1
    go_wp2_with fail
    refine (gnew_all a0 a2 a3 m w1 HOK.out).mono ?_
    rintro e w2 ⟨g, d, tb, rfl, G, hg, hd, ht, B2⟩
    have HG := Lib.hid G
    have HB2 := Lib.hid (HB1.out.trans (B2.mono HB1.out.size))
    have hs2 := B2.size
    clear G B2
    go_wp2_with fail
    refine (rnew_ok a0 m a2 a3 w2 HOK.out).mono ?_
    rintro e w3 ⟨rfl, B3⟩
    have HG3 := Lib.hid (HG.out.all B3)
    have HB3 := Lib.hid (HB2.out.trans (B3.mono HB2.out.size))
    have hs3 := B3.size
    have hs1 := HB1.out.size
    have hgl := HG3.out.blk.lt
    have hdl := die_lt HG3.out.die
    have htl := HG3.out.tld.lt
    clear B3 HG
    go_wp2_with (refine wpList_store_blk 31 (.tmp 14) (.tmp 42) w3.heap.size _ (refCells a0 m a2 a3 (.slice none 0 0)) rfl rfl rfl rfl (size31 _ _ _ _ _) (Blk.new _ _ _) rfl (ref_ones _ _ _ _ _ _ _) ?_)
    intro w4 hb4 hg4
    have hB34 : Below w3.heap.size w3 w4 := below_of_grown ((Below.refl _ w3).alloc (Nat.le_refl _) _) hg4 (Nat.le_refl _)
    have hrl := hb4.lt
    have P0 : Play w w4 w4.heap.size g d tb w3.heap.size 0 m a0 a2 a3 a3 (fun _ => false) [] none 0 0 :=
      ⟨HG3.out.all hB34, hb4, World.ownsRow_nil _ _ _ _, HB3.out.trans (hB34.mono HB3.out.size), by omega, by omega, by omega, hrl, by omega, by omega, by omega, by omega, by omega, by omega, Nat.le_refl _⟩
    have HP0 := Lib.hid P0
    obtain ⟨rb, hrb⟩ : ∃ rb, w3.heap.size = rb := ⟨_, rfl⟩
    rw [hrb] at HP0 ⊢
    obtain ⟨B, hBB⟩ : ∃ B, w4.heap.size = B := ⟨_, rfl⟩
    rw [hBB] at HP0
    clear hb4 hg4 hB34 hrl P0 hrb HG3 HB3 HB2 HB1 HOK hs1 hs2 hs3 hgl hdl htl hBB
    go_wp2_with fail
    go_loopw [16, 17, 18, 19, 20, 21, 22, 23] (fun iv _ _ _ _ _ _ _ wr => ∃ i : Nat, i ≤ 60 ∧ iv = .int .i64 i ∧ ∃ N s T L ta tn tc, N ≤ i ∧ tn ≤ i ∧ Play w wr B g d tb rb N m a0 a2 s s T L ta tn tc ∧ Hid (∀ zs, T zs = decide (zs ∈ L)) ∧ Hid (∀ x ∈ L, IsH x))
      (fun iv _ _ _ _ _ _ _ _ => 60 - (intOf iv).toNat)
    case atStart => exact ⟨0, by omega, rfl, 0, a3, _, [], none, 0, 0, by omega, by omega, HP0.out, fun _ => by simp, fun x hx => by simp at hx⟩
    case round =>
      clear HP0
      obtain ⟨i, hi, rfl, N, s, T, L, ta, tn, tc, hN, htn, P, HK, HL⟩ := hrel
      by_cases hlt : i < len4 ∧ i < 60
      · obtain ⟨h1, h2⟩ := hlt
        obtain ⟨b, off, rfl, hb, hacts⟩ := HA.out.2.2.resolve_left (by omega)
        obtain ⟨kd, A, n, c, zs, id, fr, hrg, wk, hid, hrow, wf⟩ := hacts i h1
        obtain ⟨ac, hac⟩ : ∃ ac, (actCells kd A n c id fr).toArray = ac := ⟨_, rfl⟩
        have hsz : ac.size = 35 := by rw [← hac]; simp [act_length hid.1]
        have hrg2 : wr.rangeAt b (off + i * 35) ac.toList := by rw [← hac]; exact range_below hrg P.below hb
        have hones : ∀ v ∈ ac.toList, v.oneCell' = true := by rw [← hac]; exact act_ones _ _ _ _ _ _
        have HAC := Lib.hid hac
        have HID := Lib.hid hid
        have hRC := row_cases hrow
        have HRC := Lib.hid hRC
        have HP := Lib.hid P
        have hi38 : (Try.prog.info? 38).map (·.size) = some ac.size := by rw [size38, hsz]
        clear hac hrg hacts hid hrow hRC P wf
        go_wp2_with (first
          | (refine wpList_load_range 38 (.tmp 70) b (off + i * 35) ac _ rfl rfl rfl Try.underlying38 rfl hi38 hrg2 ?_)
          | (refine wpList_store_blk 38 (.tmp 17) (.tmp 71) wr.heap.size _ ac rfl rfl rfl rfl hi38 (Blk.new _ _ _) (by rw [hsz]; rfl) hones ?_))
        intro w5 hb5 hg5
        have hB5 : Below wr.heap.size wr w5 := below_of_grown ((Below.refl _ wr).alloc (Nat.le_refl _) _) hg5 (Nat.le_refl _)
        have HP5 := Lib.hid (HP.out.all hB5)
        have d0 : w5.cell? ⟨wr.heap.size, 0, none⟩ = some (.int .u8 kd) := (hb5.cell 0).trans (by rw [← HAC.out]; rfl)
        have d1 : w5.cell? ⟨wr.heap.size, 1, none⟩ = some (.slice A n c) := (hb5.cell 1).trans (by rw [← HAC.out]; rfl)
        have d3 : w5.cell? ⟨wr.heap.size, 34, none⟩ = some (.int .i64 fr) := (hb5.cell 34).trans (by rw [← HAC.out, List.getElem?_toArray]; exact act_last HID.out.1)
        obtain ⟨ic, hic⟩ : ∃ ic, (id.map (Value.int .u8)).toArray = ic := ⟨_, rfl⟩
        have hvi : hv id = .agg ic := by rw [← hic]; rfl
        have R2 : Hid (w5.rangeAt wr.heap.size (0 + 2) ic.toList) := range_sub 2 hb5.range (fun j v hv' => by
          rw [← hic] at hv'
          rw [← HAC.out]
          exact act_id (by simpa using hv'))
        have HIC : Hid ((Try.prog.info? 36).map (·.size) = some ic.size) := by
          show _ = _
          rw [size36, ← hic]; simp [HID.out.1]
        have HVI := Lib.hid hvi
        have hal : wr.heap.size < w5.heap.size := hb5.lt
        have hBa : B ≤ wr.heap.size := HP.out.bw
        have hdB := HP.out.dB
        have htB := HP.out.tB
        have hrB := HP.out.rB
        obtain ⟨ab, hab⟩ : ∃ ab, wr.heap.size = ab := ⟨_, rfl⟩
        rw [hab] at d0 d1 d3 R2 hal hBa ⊢
        clear hb5 hg5 hB5 hab hic hvi HAC HP hrg2 hones hi38 hsz hb
        by_cases hbig : 100 < n
        · clear d0 d3 R2
          go_wp2_with fail
          go_ret
          exact ⟨rfl, HP5.out.below⟩
        have hn : n ≤ 100 := by omega
        have HIL := Lib.hid (isl_row HRC.out.2.2 HP5.out.below hn)
        clear hbig
        by_cases hk : bits BinOp.and IntKind.u8 kd 1 = 0
        · have ek : (bits BinOp.and IntKind.u8 kd 1 == 0) = true := by simp [hk]
          clear hk d3
          go_wp2_with fail
          refine (round_any g d tb N m n c a0 a2 s T A (rowOf zs n) w5 HP5.out.gos hm HIL.out (by omega)).mono ?_
          rintro e w6 ⟨x, rfl, ho6, hG6, hg6⟩
          obtain ⟨R, hR⟩ : ∃ R, Dp.pick nx vl s (oth m a0 (fun _ => true) (rowOf zs n)) a2 = R := ⟨_, rfl⟩
          obtain ⟨K, hK⟩ : ∃ K, Dp.want (oth m a0 (fun _ => true) (rowOf zs n)) a2 = K := ⟨_, rfl⟩
          have hKn : K ≤ 100 := by
            rw [← hK]
            have h1 := want_le (oth m a0 (fun _ => true) (rowOf zs n)) a2
            have h2 := oth_length m a0 (fun _ => true) (rowOf zs n)
            rw [rowOf_length] at h2
            omega
          have HRR := Lib.hid hR
          have HKK := Lib.hid hK
          rw [hR, hK] at ho6
          rw [hR] at hG6
          have HP6 := Lib.hid (HP5.out.die_ hG6 hg6)
          have d16 := cell_grown d1 hg6 hal (fun e => by injection e with e; omega)
          have R6 := Lib.hid (range_grown R2.out hg6 hal (fun e => by injection e with e; omega))
          obtain ⟨A6, c6, rfl⟩ := own_slice ho6
          have HO6 := Lib.hid ho6
          have h56 := hg6.size
          have HIL6 := Lib.hid (isl_row HRC.out.2.2 HP6.out.below hn)
          clear ho6 hG6 hg6 hR hK d0 d1 ek
          go_wp2_with (refine wpList_load_range 31 (.tmp 14) rb 0 (refCells a0 m a2 s (.slice ta tn tc)) _ rfl rfl rfl Try.underlying31 rfl (size31 _ _ _ _ _) HP6.out.ref.range ?_)
          refine (rround_any m n c a0 a2 s ta tn tc A (rowOf zs n) w6 HIL6.out (by omega)).mono ?_
          rintro e w7 ⟨v, rfl, ho7, hB7⟩
          rw [HRR.out, HKK.out] at ho7
          rw [HRR.out]
          have HP7 := Lib.hid (HP6.out.all hB7)
          have HX7 := Lib.hid (own_all HO6.out hB7)
          have R7 := Lib.hid (range_below R6.out hB7 (by omega))
          obtain ⟨A7, c7, rfl⟩ := own_slice ho7
          have HV7 := Lib.hid ho7
          have h67 := hB7.size
          clear ho7 hB7 d16
          go_wp2_with (refine wpList_store_blk 31 (.tmp 19) (.tmp 89) w7.heap.size _ (refCells a0 m a2 R.1 (.slice ta tn tc)) rfl rfl rfl rfl (size31 _ _ _ _ _) (Blk.new _ _ _) rfl (ref_ones _ _ _ _ _ _ _) ?_)
          intro w8 hb8 hg8
          have hB8 : Below w7.heap.size w7 w8 := below_of_grown ((Below.refl _ w7).alloc (Nat.le_refl _) _) hg8 (Nat.le_refl _)
          have HP8 := Lib.hid (HP7.out.all hB8)
          have HX8 := Lib.hid (own_all HX7.out hB8)
          have HV8 := Lib.hid (own_all HV7.out hB8)
          have R8 := Lib.hid (range_below R7.out hB8 (by omega))
          have h78 := hB8.size
          have q8 := hb8.range
          have HQ := HP8.out.ref
          obtain ⟨nb, hnb⟩ : ∃ nb, w7.heap.size = nb := ⟨_, rfl⟩
          rw [hnb] at q8 ⊢
          clear hb8 hg8 hB8 hnb
          go_wp2_with (first
            | (refine wpList_load_range 31 (.tmp 19) nb 0 (refCells a0 m a2 R.1 (.slice ta tn tc)) _ rfl rfl rfl Try.underlying31 rfl (size31 _ _ _ _ _) q8 ?_)
            | (refine wpList_store_blk 31 (.tmp 14) (.tmp 91) rb _ (refCells a0 m a2 R.1 (.slice ta tn tc)) rfl rfl rfl rfl (size31 _ _ _ _ _) HQ rfl (ref_ones _ _ _ _ _ _ _) ?_))
          intro w9 hb9 hg9
          have HP9 := Lib.hid (HP8.out.ref_ hg9 hb9 HP8.out.told)
          have HX9 := HX8.out.kept hg9 (row_ne HX8.out (by omega))
          have HV9 := HV8.out.kept hg9 (row_ne HV8.out (by omega))
          have R9 := Lib.hid (range_grown R8.out hg9 (by omega) (fun e => by injection e with e; omega))
          have h89 := hg9.size
          have HIX := Lib.hid (isl_own HX9 (by omega))
          have HIV := Lib.hid (isl_own HV9 (by omega))
          clear hb9 hg9 HX9 HV9 q8 HQ
          go_wp2_with fail
          refine (same_yes K c6 c7 A6 A7 R.2 w9 HIX.out HIV.out (by omega)).mono ?_
          rintro e w10 ⟨rfl, hB10⟩
          have HP10 := Lib.hid (HP9.out.all hB10)
          have R10 := Lib.hid (range_below R9.out hB10 (by omega))
          have ha10 : ab < w10.heap.size := by have := hB10.size; omega
          clear hB10
          go_wp2_with fail
          obtain ⟨tz, htz⟩ : ∃ tz, T id = tz := ⟨_, rfl⟩
          have HS15 : ∀ p : BelowOf w10, Calls Try.prog 15 #[.pointer (some ⟨g, 0, none⟩), .agg ic] p.w' fun e w' => e = .returned (.bool tz) ∧ ∃ q : BelowOf w10, w' = q.w' := by
            intro p
            have h1 := seen_any g d tb _ m a0 a2 _ _ id p.w' ((HP10.out.all p.h).gos) HID.out
            rw [HVI.out, htz] at h1
            exact calls_below h1
          have HS16 : ∀ p : BelowOf w10, Calls Try.prog 16 #[.agg #[.int .i64 a0, .int .i64 m, .int .i64 a2, .int .u64 R.1, .slice ta tn tc], .agg ic] p.w' fun e w' => e = .returned (.bool tz) ∧ ∃ q : BelowOf w10, w' = q.w' := by
            intro p
            have hP := HP10.out.all p.h
            have h1 := rseen_any a0 m a2 R.1 ta tn tc _ id p.w' HID.out HL.out (told_count HL.out hP.told) (Reads.of_own hP.told) (by omega)
            rw [HVI.out, ← HK.out id, htz] at h1
            exact calls_below h1
          have hl36 : ∀ p : BelowOf w10, (Instr.loadAt 36 (.pointer (some ⟨ab, 2, none⟩))).run Try.prog p.w' = .ok (.agg ic) p.w' := by
            intro p
            have h1 := run_loadAt_mid (P := Try.prog) p.w' ab 2 36 ic.toList _ (range_below R10.out p.h ha10) Try.underlying36 rfl (by rw [HIC.out]; simp)
            simpa using h1
          have hk : ∀ p : BelowOf w10, p.w'.cell? ⟨rb, 0, none⟩ = some (.int .i64 a0) ∧ p.w'.cell? ⟨rb, 1, none⟩ = some (.int .i64 m) ∧ p.w'.cell? ⟨rb, 2, none⟩ = some (.int .i64 a2) ∧ p.w'.cell? ⟨rb, 3, none⟩ = some (.int .u64 R.1) ∧ p.w'.cell? ⟨rb, 4, none⟩ = some (.slice ta tn tc) :=
            fun p => ref_cells (HP10.out.all p.h).ref
          have k0 := fun p => (hk p).1
          have k1 := fun p => (hk p).2.1
          have k2 := fun p => (hk p).2.2.1
          have k3 := fun p => (hk p).2.2.2.1
          have k4 := fun p => (hk p).2.2.2.2
          have hS15 := Lib.hid HS15
          have hS16 := Lib.hid HS16
          have hL36 := Lib.hid hl36
          clear htz hk HS15 HS16 hl36
          refine wp_region_below (by kernel_rfl) (by kernel_rfl) ?_
          iterate 2 (quiet_step (fail))
          refine wpQuiet_step (fun K hK => ?_)
          rw [if_pos (by rfl)]
          refine ⟨.agg ic, fun w' hw' => ?_, ?_⟩
          · obtain ⟨p, rfl⟩ := hw'
            exact quiet_load 36 _ _ _ rfl rfl (hL36.out p)
          go_simp
          refine hK _ ?_
          clear hK K
          quiet_step (exact hS15.out _)
          iterate 2 (quiet_step (fail))
          refine wpQuiet_step (fun K hK => ?_)
          rw [if_pos (by rfl)]
          refine ⟨.agg ic, fun w' hw' => ?_, ?_⟩
          · obtain ⟨p, rfl⟩ := hw'
            exact quiet_load 36 _ _ _ rfl rfl (hL36.out p)
          go_simp
          refine hK _ ?_
          clear hK K
          quiet_step (exact hS16.out _)
          quiet_step (fail)
          refine wpQuiet_nil ?_
          intro _ hw'
          obtain ⟨p, hw''⟩ := hw'
          subst hw''
          have HPn := Lib.hid (HP10.out.all p.h)
          clear k0 k1 k2 k3 k4
          go_wp2_with fail
          go_roundw
          case rel => exact ⟨i + 1, by omega, by go_num, _, _, _, _, _, _, _, by omega, by omega, HPn.out, HK, HL⟩
          case measure => simp [intOf]; omega
        · have ek : (bits BinOp.and IntKind.u8 kd 1 == 0) = false := by simp [hk]
          clear hk
          have HK' : Hid (∀ zs, put T id zs = decide (zs ∈ tell L id)) := put_tell HK.out id
          have HL' : Hid (∀ x ∈ tell L id, IsH x) := tell_h HL.out HID.out
          have HFE : Hid (flr m a0 fr T id (rowOf zs n) = tellF m a0 fr L id (rowOf zs n)) := flr_tell HK.out id _
          have hFn : (flr m a0 fr T id (rowOf zs n)).length ≤ 100 := by
            unfold flr
            split
            · simp
            · have h2 := oth_length m a0 (fun k => k != fr) (rowOf zs n)
              rw [rowOf_length] at h2
              omega
          have HF := Lib.hid (flood_any g d tb N m n c a0 a2 s fr T id A (rowOf zs n) w5 HP5.out.gos HID.out hm HIL.out (by omega) (by omega))
          rw [HVI.out] at HF
          have R5 : w5.rangeAt ab 2 ic.toList := R2.out
          go_wp2_with (refine wpList_load_range 36 (.tmp 97) ab 2 ic _ rfl rfl rfl Try.underlying36 rfl HIC.out R5 ?_)
          refine HF.out.mono ?_
          clear HF
          rintro e w6 ⟨x, rfl, ho6, hG6, hg6⟩
          obtain ⟨F, hF⟩ : ∃ F, flr m a0 fr T id (rowOf zs n) = F := ⟨_, rfl⟩
          rw [hF] at ho6 hFn HFE
          have HP6 := Lib.hid (HP5.out.tld_ hG6 hg6)
          have d16 := cell_grown d1 hg6 hal (fun e => by injection e with e; omega)
          have d36 := cell_grown d3 hg6 hal (fun e => by injection e with e; omega)
          have R6 := range_grown R5 hg6 hal (fun e => by injection e with e; omega)
          obtain ⟨A6, c6, rfl⟩ := own_slice ho6
          have HO6 := Lib.hid ho6
          have h56 := hg6.size
          have HIL6 := Lib.hid (isl_row HRC.out.2.2 HP6.out.below hn)
          have HTC := Lib.hid (told_count HL.out HP6.out.told)
          have HF := Lib.hid (rflood_any m n c a0 a2 s fr ta tn tc B L id A (rowOf zs n) w6 HID.out HL.out HTC.out HP6.out.told HP6.out.bw (by omega) HIL6.out (by omega))
          rw [HVI.out, ← HFE.out] at HF
          clear ho6 hG6 hg6 hF d0 d1 d3 R5 ek
          go_wp2_with (first
            | (refine wpList_load_range 31 (.tmp 14) rb 0 (refCells a0 m a2 s (.slice ta tn tc)) _ rfl rfl rfl Try.underlying31 rfl (size31 _ _ _ _ _) HP6.out.ref.range ?_)
            | (refine wpList_load_range 36 (.tmp 106) ab 2 ic _ rfl rfl rfl Try.underlying36 rfl HIC.out R6 ?_))
          refine HF.out.mono ?_
          clear HF
          rintro e w7 ⟨v, ta', tn', tc', rfl, ho7, hB7, ht7⟩
          have htn' : tn' ≤ i + 1 := by
            have h1 := told_count HL'.out ht7
            have h2 := tell_length (L := L) (zs := id)
            have h3 := HTC.out
            omega
          have HP7 := Lib.hid (HP6.out.all hB7)
          have HX7 := Lib.hid (own_all HO6.out hB7)
          have R7 := Lib.hid (range_below R6 hB7 (by omega))
          obtain ⟨A7, c7, rfl⟩ := own_slice ho7
          have HV7 := Lib.hid ho7
          have HT7 := Lib.hid ht7
          have h67 := hB7.size
          clear ho7 hB7 d16 d36 R6 ht7
          go_wp2_with (refine wpList_store_blk 31 (.tmp 22) (.tmp 113) w7.heap.size _ (refCells a0 m a2 s (.slice ta' tn' tc')) rfl rfl rfl rfl (size31 _ _ _ _ _) (Blk.new _ _ _) rfl (ref_ones _ _ _ _ _ _ _) ?_)
          intro w8 hb8 hg8
          have hB8 : Below w7.heap.size w7 w8 := below_of_grown ((Below.refl _ w7).alloc (Nat.le_refl _) _) hg8 (Nat.le_refl _)
          have HP8 := Lib.hid (HP7.out.all hB8)
          have HX8 := Lib.hid (own_all HX7.out hB8)
          have HV8 := Lib.hid (own_all HV7.out hB8)
          have HT8 := Lib.hid (own_below36 HT7.out hB8)
          have R8 := Lib.hid (range_below R7.out hB8 (by omega))
          have h78 := hB8.size
          have q8 := hb8.range
          have HQ := HP8.out.ref
          obtain ⟨nb, hnb⟩ : ∃ nb, w7.heap.size = nb := ⟨_, rfl⟩
          rw [hnb] at q8 ⊢
          clear hb8 hg8 hB8 hnb
          go_wp2_with (first
            | (refine wpList_load_range 31 (.tmp 22) nb 0 (refCells a0 m a2 s (.slice ta' tn' tc')) _ rfl rfl rfl Try.underlying31 rfl (size31 _ _ _ _ _) q8 ?_)
            | (refine wpList_store_blk 31 (.tmp 14) (.tmp 115) rb _ (refCells a0 m a2 s (.slice ta' tn' tc')) rfl rfl rfl rfl (size31 _ _ _ _ _) HQ rfl (ref_ones _ _ _ _ _ _ _) ?_))
          intro w9 hb9 hg9
          have HP9 := Lib.hid (HP8.out.ref_ hg9 hb9 HT8.out)
          have HX9 := HX8.out.kept hg9 (row_ne HX8.out (by omega))
          have HV9 := HV8.out.kept hg9 (row_ne HV8.out (by omega))
          have R9 := Lib.hid (range_grown R8.out hg9 (by omega) (fun e => by injection e with e; omega))
          have h89 := hg9.size
          have HIX := Lib.hid (isl_own HX9 (by omega))
          have HIV := Lib.hid (isl_own HV9 (by omega))
          clear hb9 hg9 HX9 HV9 q8 HQ
          go_wp2_with fail
          refine (same_yes F.length c6 c7 A6 A7 F w9 HIX.out HIV.out (by omega)).mono ?_
          rintro e w10 ⟨rfl, hB10⟩
          have HP10 := Lib.hid (HP9.out.all hB10)
          have R10 := Lib.hid (range_below R9.out hB10 (by omega))
          have ha10 : ab < w10.heap.size := by have := hB10.size; omega
          clear hB10
          go_wp2_with fail
          obtain ⟨tz, htz⟩ : ∃ tz, put T id id = tz := ⟨_, rfl⟩
          have HS15 : ∀ p : BelowOf w10, Calls Try.prog 15 #[.pointer (some ⟨g, 0, none⟩), .agg ic] p.w' fun e w' => e = .returned (.bool tz) ∧ ∃ q : BelowOf w10, w' = q.w' := by
            intro p
            have h1 := seen_any g d tb _ m a0 a2 _ _ id p.w' ((HP10.out.all p.h).gos) HID.out
            rw [HVI.out, htz] at h1
            exact calls_below h1
          have HS16 : ∀ p : BelowOf w10, Calls Try.prog 16 #[.agg #[.int .i64 a0, .int .i64 m, .int .i64 a2, .int .u64 s, .slice ta' tn' tc'], .agg ic] p.w' fun e w' => e = .returned (.bool tz) ∧ ∃ q : BelowOf w10, w' = q.w' := by
            intro p
            have hP := HP10.out.all p.h
            have h1 := rseen_any a0 m a2 s ta' tn' tc' _ id p.w' HID.out HL'.out (told_count HL'.out hP.told) (Reads.of_own hP.told) (by omega)
            rw [HVI.out, ← HK'.out id, htz] at h1
            exact calls_below h1
          have hl36 : ∀ p : BelowOf w10, (Instr.loadAt 36 (.pointer (some ⟨ab, 2, none⟩))).run Try.prog p.w' = .ok (.agg ic) p.w' := by
            intro p
            have h1 := run_loadAt_mid (P := Try.prog) p.w' ab 2 36 ic.toList _ (range_below R10.out p.h ha10) Try.underlying36 rfl (by rw [HIC.out]; simp)
            simpa using h1
          have hk : ∀ p : BelowOf w10, p.w'.cell? ⟨rb, 0, none⟩ = some (.int .i64 a0) ∧ p.w'.cell? ⟨rb, 1, none⟩ = some (.int .i64 m) ∧ p.w'.cell? ⟨rb, 2, none⟩ = some (.int .i64 a2) ∧ p.w'.cell? ⟨rb, 3, none⟩ = some (.int .u64 s) ∧ p.w'.cell? ⟨rb, 4, none⟩ = some (.slice ta' tn' tc') :=
            fun p => ref_cells (HP10.out.all p.h).ref
          have k0 := fun p => (hk p).1
          have k1 := fun p => (hk p).2.1
          have k2 := fun p => (hk p).2.2.1
          have k3 := fun p => (hk p).2.2.2.1
          have k4 := fun p => (hk p).2.2.2.2
          have hS15 := Lib.hid HS15
          have hS16 := Lib.hid HS16
          have hL36 := Lib.hid hl36
          clear htz hk HS15 HS16 hl36
          refine wp_region_below (by kernel_rfl) (by kernel_rfl) ?_
          iterate 2 (quiet_step (fail))
          refine wpQuiet_step (fun K hK => ?_)
          rw [if_pos (by rfl)]
          refine ⟨.agg ic, fun w' hw' => ?_, ?_⟩
          · obtain ⟨p, rfl⟩ := hw'
            exact quiet_load 36 _ _ _ rfl rfl (hL36.out p)
          go_simp
          refine hK _ ?_
          clear hK K
          quiet_step (exact hS15.out _)
          iterate 2 (quiet_step (fail))
          refine wpQuiet_step (fun K hK => ?_)
          rw [if_pos (by rfl)]
          refine ⟨.agg ic, fun w' hw' => ?_, ?_⟩
          · obtain ⟨p, rfl⟩ := hw'
            exact quiet_load 36 _ _ _ rfl rfl (hL36.out p)
          go_simp
          refine hK _ ?_
          clear hK K
          quiet_step (exact hS16.out _)
          quiet_step (fail)
          refine wpQuiet_nil ?_
          intro _ hw'
          obtain ⟨p, hw''⟩ := hw'
          subst hw''
          have HPn := Lib.hid (HP10.out.all p.h)
          clear k0 k1 k2 k3 k4
          go_wp2_with fail
          go_roundw
          case rel => exact ⟨i + 1, by omega, by go_num, _, _, _, _, _, _, _, by omega, by omega, HPn.out, HK', HL'⟩
          case measure => simp [intOf]; omega
      · have hend : len4 ≤ i ∨ i = 60 := by omega
        have HPB := Lib.hid P.below
        clear P
        go_wp2_with fail
        all_goals
          refine (round_nil2 _ _ _ _).mono ?_
          rintro e x1 ⟨rfl, b1⟩
          have B1 := Lib.hid (bthen (HPB.out.alloc HPB.out.size _) b1)
          clear b1
          go_wp2_with fail
          refine (flood_nil _ _ _ _ _ _).mono ?_
          rintro e x2 ⟨rfl, b2⟩
          have B2 := Lib.hid (bthen (B1.out.alloc B1.out.size _) b2)
          clear b2
          go_wp2_with fail
          refine (seen_nil _ _).mono ?_
          rintro e x3 ⟨rfl, b3⟩
          have B3 := Lib.hid (bthen B2.out b3)
          clear b3
          go_wp2_with fail
          go_ret
          exact ⟨rfl, B3.out⟩
  · have hB1 := HB1.out
    clear hB1 B1
    go_wp2_with fail
    refine (gnew_bad a0 a1 a2 a3 w1 hok).mono ?_
    rintro e wx ⟨rfl, hw⟩
    obtain rfl := hw.symm
    clear hw
    go_wp2_with fail
    refine (rnew_bad a0 a1 a2 a3 w1 hok).mono ?_
    rintro e w3 ⟨rfl, B3⟩
    have HB3 := Lib.hid (HB1.out.trans (B3.mono HB1.out.size))
    clear B3
    go_wp2_with (refine wpList_store_blk 31 (.tmp 14) (.tmp 42) w3.heap.size _ (refCells 0 0 0 0 (.slice none 0 0)) rfl rfl rfl rfl (size31 _ _ _ _ _) (Blk.new _ _ _) rfl (ref_ones _ _ _ _ _ _ _) ?_)
    intro w4 hb4 hg4
    have HB4 := Lib.hid (bthen HB3.out (below_of_grown ((Below.refl _ w3).alloc (Nat.le_refl _) _) hg4 (Nat.le_refl _)))
    obtain ⟨rb, hrb⟩ : ∃ rb, w3.heap.size = rb := ⟨_, rfl⟩
    rw [hrb]
    clear hb4 hg4 hrb
    go_wp2_with fail
    go_loopw [16, 17, 18, 19, 20, 21, 22, 23] (fun iv _ _ _ _ _ _ _ wr => iv = .int .i64 0 ∧ Below w.heap.size w wr)
      (fun iv _ _ _ _ _ _ _ _ => 0)
    case atStart => exact ⟨rfl, HB4.out⟩
    case round =>
      obtain ⟨rfl, hPB⟩ := hrel
      have HPB := Lib.hid hPB
      clear hPB
      by_cases h0 : 0 < len4
      · go_wp2_with fail
        all_goals
          refine (round_nil2 _ _ _ _).mono ?_
          rintro e x1 ⟨rfl, b1⟩
          have B1 := Lib.hid (bthen (HPB.out.alloc HPB.out.size _) b1)
          clear b1
          go_wp2_with fail
          refine (flood_nil _ _ _ _ _ _).mono ?_
          rintro e x2 ⟨rfl, b2⟩
          have B2 := Lib.hid (bthen (B1.out.alloc B1.out.size _) b2)
          clear b2
          go_wp2_with fail
          refine (seen_nil _ _).mono ?_
          rintro e x3 ⟨rfl, b3⟩
          have B3 := Lib.hid (bthen B2.out b3)
          clear b3
          go_wp2_with fail
          go_ret
          exact ⟨rfl, B3.out⟩
      · go_wp2_with fail
        all_goals
          refine (round_nil2 _ _ _ _).mono ?_
          rintro e x1 ⟨rfl, b1⟩
          have B1 := Lib.hid (bthen (HPB.out.alloc HPB.out.size _) b1)
          clear b1
          go_wp2_with fail
          refine (flood_nil _ _ _ _ _ _).mono ?_
          rintro e x2 ⟨rfl, b2⟩
          have B2 := Lib.hid (bthen (B1.out.alloc B1.out.size _) b2)
          clear b2
          go_wp2_with fail
          refine (seen_nil _ _).mono ?_
          rintro e x3 ⟨rfl, b3⟩
          have B3 := Lib.hid (bthen B2.out b3)
          clear b3
          go_wp2_with fail
          go_ret
          exact ⟨rfl, B3.out⟩

set_option maxRecDepth 100000 in
theorem lifted (os : Os) (started : os.Started) (H : Type) (enc : TypeId × Value → H) :
    ReturnsInHanded {} Try.checked os 3 .any (Rows.gossipPlaysSpec.pre6 enc Try.prog Try.f3 Rows.gossipPlaysRow.domain false) (Rows.gossipPlaysSpec.post enc Try.prog Try.f3 false true false false) := by
  refine returnsInHanded_of_change (C := Try.checked) own started (by kernel_rfl) Try.func3
    (ChangeSpec.witness6 (enc := enc) (C := Try.checked) false ⟨#[], #[.int .i64 0, .int .i64 0, .int .i64 0, .int .u64 0, .slice none 0 0], []⟩ 8 (by kernel_rfl) (by kernel_rfl) (by kernel_rfl) (by kernel_rfl)) ?_
  intro W base args ds gs before hval0 hW hcnd _
  have hval : ∀ (j : Nat) t v, Try.f3.params[j]? = some t → args[j]? = some v → Value.okWide Try.prog W .any base t v := hval0
  have hW' := hW
  obtain ⟨p, q, hA0, hV, rfl, hfz, hnd⟩ := hW
  have hA : DataW.TrodAll enc Try.prog W 0 (fun _ => true) true Try.f3.params.toList args.toList ds p := hA0
  rw [Try.params3] at hA hval
  obtain ⟨v0, vs0, d0, ds0, p0, q0, hargs, rfl, rfl, h0, r0⟩ := trodAll_cons hA
  obtain ⟨v1, vs1, d1, ds1, p1, q1, rfl, rfl, rfl, h1, r1⟩ := trodAll_cons r0
  obtain ⟨v2, vs2, d2, ds2, p2, q2, rfl, rfl, rfl, h2, r2⟩ := trodAll_cons r1
  obtain ⟨v3, vs3, d3, ds3, p3, q3, rfl, rfl, rfl, h3, r3⟩ := trodAll_cons r2
  obtain ⟨v4, vs4, d4, ds4, p4, q4, rfl, rfl, rfl, h4, r4⟩ := trodAll_cons r3
  obtain ⟨rfl, rfl, rfl⟩ := trodAll_nil r4
  obtain rfl : args = #[v0, v1, v2, v3, v4] := by cases args; simp_all
  obtain ⟨rfl, rfl⟩ := trodVars_none hV
  obtain ⟨a0, rfl, rfl, rfl, w0⟩ := open_int Try.underlying3 (hval 0 3 v0 rfl rfl) h0
  obtain ⟨a1, rfl, rfl, rfl, w1⟩ := open_int Try.underlying3 (hval 1 3 v1 rfl rfl) h1
  obtain ⟨a2, rfl, rfl, rfl, w2⟩ := open_int Try.underlying3 (hval 2 3 v2 rfl rfl) h2
  obtain ⟨a3, rfl, rfl, rfl, w3⟩ := open_int Try.underlying22 (hval 3 22 v3 rfl rfl) h3
  obtain ⟨a4, len4, cap4, rfl⟩ := okWide_slice Try.underlying23 (hval 4 23 v4 rfl rfl)
  have k4 := h4
  have lt4 : ∀ x ∈ p4, x.block < W.heap.size := by obtain ⟨m, hm⟩ := k4; exact DataW.trod_lt m _ _ _ hm
  have w4 : IsActs W a4 len4 cap4 := by
    obtain ⟨fuel, hf⟩ := h4
    exact open_acts hf
  clear hA0 hval0
  refine (walk a0 a1 a2 a3 a4 len4 cap4 W w0 w1 w2 w3 w4).mono fun e W' ⟨he, bel⟩ => ?_
  subst he
  exact ⟨_, rfl, _, _, _, [], _, [], hW', trodAll_mk1 (shut_bool Try.underlying4 _), (trodAll_cons_mk (shut_int Try.underlying3 w0) (trodAll_cons_mk (shut_int Try.underlying3 w1) (trodAll_cons_mk (shut_int Try.underlying3 w2) (trodAll_cons_mk (shut_int Try.underlying22 w3) (trodAll_cons_mk (Below.trod laidOut (by kernel_rfl) (of_decide_eq_true (by kernel_rfl)) k4 bel lt4) trodAll_mk0))))), rfl, bel.frame _, fun h => by cases h⟩

theorem over : Rows.gossipPlaysRow.holds Try.pinned (OpenSpec.ofChange Rows.gossipPlaysSpec) :=
  OpenClaim.holds_of_wide 3 Try.f3 rfl rfl rfl rfl rfl rfl rfl ⟨rfl, rfl, rfl, rfl, rfl⟩ rfl rfl rfl rfl rfl (by kernel_rfl) Try.func3 (by kernel_rfl)
    (of_decide_eq_true (by kernel_rfl)) (by unfold Func.isWrapper; first | (rw [if_pos (by decide +kernel)]; kernel_rfl) | (rw [if_neg (by decide +kernel)]; exact ⟨rfl, rfl⟩))
    (fun os started H enc _ => lifted os started H enc)

theorem proved : Rows.GossipPlaysSaid := over
#print axioms proved
end Go.Proofs.Ytpcppphdbalogaa.gossipPlays
