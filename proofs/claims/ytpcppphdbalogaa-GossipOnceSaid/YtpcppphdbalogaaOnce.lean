/-
  Gossip: never itself, nobody twice at a time, each thing once.
-/
import Derived.Test.YtpcppphdbalogaaRows
import Derived.WalkKit
import Derived.ProofKit
import Derived.OpenShut
import Derived.ShutString
import Derived.ChangeOld
import Derived.Below
import Derived.Test.YtpcppphdbalogaaGl
namespace Go.Proofs.Ytpcppphdbalogaa.gossipOnce
open Go.ChangeShapes Go.WideShapes Go.ChangeAt Go.RowKit
open Go.ChangeMaps (open_string shut_string)
set_option linter.unusedVariables false

theorem own : ownKnob Try.prog.godebug = none := by kernel_rfl
theorem laidOut : laidOutB Try.prog = true := by kernel_rfl

/-- a slice of integers that came in: nil, or a row of 'cap' cells, the numbers 'zs', each fitting its kind. -/
def IsRow (k : IntKind) (w : World) (a : Option Addr) (len cap : Nat) (zs : List Int) : Prop :=
  (a = none ∧ len = 0 ∧ cap = 0 ∧ zs = []) ∨
  ∃ x, a = some x ∧ len ≤ cap ∧ cap ≤ maxLen ∧ zs.length = cap ∧ (∀ i, i < zs.length → w.cell? (x.add i) = some (.int k (zs.getD i 0))) ∧ ∀ n ∈ zs, (Lit.int k n).wf = true

set_option maxRecDepth 100000 in
set_option maxHeartbeats 4000000 in
theorem walk (a0 : Int) (a1 : Int) (a2 : Int) (a3 : Int) (a4 : Option Addr) (len4 cap4 : Nat) (z4 : List Int) (w : World) (w0 : (Lit.int .u8 a0).wf = true) (w1 : (Lit.int .u8 a1).wf = true) (w2 : (Lit.int .u8 a2).wf = true) (w3 : (Lit.int .u64 a3).wf = true) (w4 : IsRow .u8 w a4 len4 cap4 z4) :
    Calls Try.prog 4 #[.int .u8 a0, .int .u8 a1, .int .u8 a2, .int .u64 a3, .slice a4 len4 cap4] w fun e w' => e = .returned (.bool true) ∧ Below w.heap.size w w' := by
  obtain ⟨hlc, hcm, hrow⟩ := row_cases8 w4
  obtain ⟨i0, hi, hz0, hz1, hz2⟩ := info_parts Try.info3
  have b0 := bounds_u8 w0
  have b1 := bounds_u8 w1
  have b2 := bounds_u8 w2
  have HR := Lib.hid hrow
  clear w0 w1 w2 w3 w4 hlc hcm hrow
  obtain ⟨m, hm⟩ : ∃ m : Nat, (m : Int) = a1 % 20 + 1 := ⟨(a1 % 20 + 1).toNat, by omega⟩
  have hm1 : 1 ≤ m := by omega
  have hm2 : m ≤ 20 := by omega
  have hq0 : 0 ≤ a2 % (a1 % 20 + 1) := Int.emod_nonneg _ (by omega)
  have hq1 : a2 % (a1 % 20 + 1) < a1 % 20 + 1 := Int.emod_lt_of_pos _ (by omega)
  have hq2 : a2 % (a1 % 20 + 1) ≤ 20 := by omega
  go_enter Try.func4, Try.ntmps4
  go_wp2_with fail
  refine (awake_any _).mono ?_
  rintro e w1 ⟨rfl, B1⟩
  by_cases hbig : 40 < len4
  · go_wp2_with fail
    go_ret
    exact ⟨rfl, B1⟩
  have hlen : len4 ≤ 40 := by omega
  have HB1 := Lib.hid B1
  clear B1 hbig
  go_wp2_with fail
  rw [← hm]
  obtain ⟨kk, hkk⟩ : ∃ kk, kk = a0 % (m : Int) := ⟨_, rfl⟩
  have hk0 : 0 ≤ kk := by rw [hkk]; exact Int.emod_nonneg _ (by omega)
  have hk1 : kk < (m : Int) := by rw [hkk]; exact Int.emod_lt_of_pos _ (by omega)
  obtain ⟨fn, hfn⟩ : ∃ fn : Nat, (fn : Int) = a2 % (m : Int) + 1 := ⟨(a2 % (m : Int) + 1).toNat, by
    have := Int.emod_nonneg a2 (b := (m : Int)) (by omega)
    omega⟩
  have hf0 : 1 ≤ fn := by
    have := Int.emod_nonneg a2 (b := (m : Int)) (by omega)
    omega
  have hf1 : fn ≤ m := by
    have := Int.emod_lt_of_pos a2 (b := (m : Int)) (by omega)
    omega
  rw [← hkk, ← hfn]
  clear hkk hm b0 b1 b2 hfn hq0 hq1 hq2
  refine (gnew_all kk fn a3 m w1 (by unfold newOk; omega)).mono ?_
  rintro e w2 ⟨g, d, tb, rfl, G, hg, hd, ht, B2⟩
  have hB2 : Below w.heap.size w w2 := HB1.out.trans (B2.mono HB1.out.size)
  have hws := HB1.out.size
  have HG := Lib.hid G
  have hglt := G.blk.lt
  have hdlt := die_lt G.die
  have htlt := G.tld.lt
  have HB2 := Lib.hid hB2
  clear G hB2 B2
  go_wp2_with fail
  go_loopw [17, 18] (fun lv iv wr => ∃ i : Nat, i ≤ m + 2 ∧ iv = .int .i64 ((i : Int) - 1) ∧ wr.ownsRow w2.heap.size 3 1 lv (dbl i).length (ints (dbl i)) ∧ Below w2.heap.size w2 wr)
    (fun _ iv _ => m + 2 - (intOf iv + 1).toNat)
  case atStart => exact ⟨0, Nat.zero_le _, rfl, World.ownsRow_nil _ _ _ _, Below.refl _ _⟩
  case round =>
    obtain ⟨i, hin, rfl, hO, hB⟩ := hrel
    have hdl := Lib.hid (dbl_length i)
    by_cases hlt : i < m + 2
    · go_wp2_with (at_builtin; go_must (refine wpList_append_any _ rfl (.tmp 60) (.tmp 63) _ rfl w2.heap.size 3 i0 _ 1 8 Try.underlying34 hi hz0 hz1 hz2 rfl (by omega) u17 (dbl i).length (ints (dbl i)) rfl (hO.alloc _) (wr.heap.size + 1) (some ⟨wr.heap.size, 0, none⟩) 2 2 [.int .i64 ((i : Int) - 1), .int .i64 ((i : Int) - 1)] rfl (reads_two _ _ _ _) (two_cell _ _) ?c3 ?c4 ?c5 ?_))
      case c3 => have := hdl.out; unfold maxLen; omega
      case c4 => have := hdl.out; omega
      case c5 => have := hB.size; simp; omega
      intro v w3 ho hg _
      have R : w3.ownsRow w2.heap.size 3 1 v (dbl (i + 1)).length (ints (dbl (i + 1))) ∧ Below w2.heap.size w2 w3 :=
        ⟨by rw [dbl_length, show 2 * (i + 1) = 2 * i + 2 by omega]; simpa [dbl, ints, dbl_length] using ho, (hB.alloc hB.size _).grown hg (by have := hB.size; simp; omega) (fun k e => (hO.lt k e).1)⟩
      clear ho hg hO hB
      go_wp2
      go_roundw
      case rel => exact ⟨i + 1, by omega, by go_num, R.1, R.2⟩
      case measure => simp [intOf]; omega
    · have him : i = m + 2 := by omega
      rw [him] at hO hdl
      obtain ⟨A, c, rfl⟩ := own_slice hO
      obtain ⟨zi, hzi⟩ : ∃ zi, (i : Int) - 1 = zi := ⟨_, rfl⟩
      have hlast : ¬ (zi ≤ (m : Int)) := by omega
      rw [hzi]
      clear hzi him hin hlt
      obtain ⟨l, hl⟩ : ∃ l, dbl (m + 2) = l := ⟨_, rfl⟩
      have HP1 := all_len m kk (fun _ => true) hk0 hk1 (fun _ _ => rfl)
      have HFl : Hid (∀ (T : List Int → Bool) (zs : List Int) (b : Bool), T zs = b → (b = true → (flr m kk (-5) T zs l).length = 0) ∧ (b = false → (flr m kk (-5) T zs l).length = m - 1)) := by
        intro T zs b hb
        have := flr_len m kk T zs b hb hk0 hk1
        rwa [hl] at this
      rw [hl] at hO hdl HP1 ⊢
      clear hl
      have hBs := hB.size
      have hwB : Below w.heap.size w wr := HB2.out.trans (hB.mono HB2.out.size)
      have O0 : Onc w (wr.alloc (.cells (falses 256) 4)) w2.heap.size wr.heap.size g d tb 0 m kk fn a3 (fun _ => false) [] A c l :=
        ⟨⟨own_base4 (falses_own 256 (by omega) 1 wr) hBs, (HG.out.all hB).all ((Below.refl _ wr).alloc (Nat.le_refl _) _), hwB.alloc hwB.size _, hwB.size, by omega, by omega, by omega, by omega, by omega⟩, hO.alloc _, hdlt, htlt⟩
      have HO0 := Lib.hid O0
      have hmk : (Instr.makeSlice 49 (.int .i64 256) (.int .i64 256)).run Try.prog wr = .ok (.slice (some ⟨wr.heap.size, 0, none⟩) 256 256) (wr.alloc (.cells (falses 256) 4)) := make_bools 256 (by omega) wr
      have hsb1 : w2.heap.size ≤ wr.heap.size := hBs
      obtain ⟨sb, hsb⟩ : ∃ sb, wr.heap.size = sb := ⟨_, rfl⟩
      clear O0 hO hB hwB
      go_wp2_with fail
      rw [hsb] at HO0 hsb1 hBs
      clear hmk
      generalize wr.alloc (.cells (falses 256) 4) = wq at HO0 ⊢
      go_loopw [20, 21, 22, 23, 24, 25] (fun iv _ _ _ _ _ wr => ∃ i : Nat, i ≤ len4 ∧ iv = .int .i64 i ∧ ∃ s T P, Onc w wr w2.heap.size sb g d tb i m kk fn s T P A c l ∧ Hid (Knows T P))
        (fun iv _ _ _ _ _ _ => len4 - (intOf iv).toNat)
      case atStart => exact ⟨0, Nat.zero_le _, rfl, _, _, _, HO0.out, knows_nil⟩
      case round =>
        clear HO0
        obtain ⟨i, hin, rfl, s, T, P, O, HK⟩ := hrel
        by_cases hlt : i < len4
        · obtain ⟨b0, o0, rfl, hb0, hc0⟩ := HR.out.resolve_left (by omega)
          obtain ⟨hx, wx⟩ := hc0 i hlt
          clear hc0
          have bx := bounds_u8 wx
          generalize z4.getD i 0 = x at hx wx bx
          obtain ⟨q, rfl⟩ : ∃ q : Nat, x = q := ⟨x.toNat, by omega⟩
          have hq : q < 256 := by omega
          have Hx : Hid (∀ wk, Below w.heap.size w wk → wk.cell? ⟨b0, o0 + i, none⟩ = some (.int .u8 (q : Int))) := fun wk hB => (hB.cell (p := ⟨b0, o0 + i, none⟩) hb0).trans hx
          have HZ := Lib.hid (one_h wx)
          clear hx wx hb0 bx
          have HO := Lib.hid O
          have hsz := (O.cnt.seen.lt sb rfl)
          clear O
          go_wp2_with fail
          refine (round_any g d tb i m l.length c kk fn s T A l _ HO.out.cnt.gos (by omega) (isl_own HO.out.all (by have := hdl.out; omega)) (by have := hdl.out; omega)).mono ?_
          rintro e w5 ⟨v, rfl, ho, hG, hg5⟩
          have HO5 := Lib.hid (HO.out.die_ hG hg5)
          have hmemR := Dp.pick_mem nx vl s (oth m kk (fun _ => true) l) (fn : Int)
          have hndR := Dp.pick_nodup nx vl s (oth m kk (fun _ => true) l) (fn : Int) (oth_nodup _ _ _ _)
          have hRin : ∀ x ∈ (Dp.pick nx vl s (oth m kk (fun _ => true) l) (fn : Int)).2, 0 ≤ x ∧ x < (m : Int) ∧ x ≠ kk := fun x hx => by
            have := (oth_mem _ _ _ _ _).1 (hmemR x hx)
            exact ⟨this.2.1, this.2.2.1, this.2.2.2.1⟩
          have hk1w : Dp.want (oth m kk (fun _ => true) l) (fn : Int) = min fn (m - 1) := by unfold Dp.want; rw [HP1]; omega
          rw [hk1w] at ho
          have hob := own_base ho (base' := w2.heap.size) (by omega)
          clear hG hg5 hk1w ho hmemR
          generalize (Dp.pick nx vl s (oth m kk (fun _ => true) l) (fn : Int)).2 = R at hob hndR hRin
          generalize (Dp.pick nx vl s (oth m kk (fun _ => true) l) (fn : Int)).1 = s' at HO5
          obtain ⟨k1, hk1⟩ : ∃ k1, min fn (m - 1) = k1 := ⟨_, rfl⟩
          rw [hk1] at hob
          obtain ⟨A2, c2, rfl⟩ := own_slice hob
          have HOb := Lib.hid hob
          have HNd := Lib.hid hndR
          have HIn := Lib.hid hRin
          clear hob hndR hRin
          have hmk := make_bools m (by omega) w5
          have HN : Hid (w5.heap.size ≠ sb ∧ w5.heap.size ≠ g ∧ w5.heap.size ≠ d ∧ w5.heap.size ≠ tb ∧ w.heap.size ≤ w5.heap.size ∧ (Value.slice A l.length c).ownBlock ≠ some w5.heap.size) := by
            have p1 := (HO5.out.cnt.seen.lt sb rfl).2
            have p2 := HO5.out.cnt.gos.blk.lt
            have p3 := die_lt HO5.out.cnt.gos.die
            have p4 := HO5.out.cnt.gos.tld.lt
            exact ⟨by omega, by omega, by omega, by omega, HO5.out.cnt.below.size, fun e => by have := (HO5.out.all.lt _ e).2; omega⟩
          have HM0 : Hid (Met (w5.alloc (.cells (falses m) 4)) w2.heap.size 1 A2 c2 k1 w5.heap.size m R 0) :=
            ⟨HOb.out.alloc _, own_base4 (falses_own m (by omega) 1 w5) (by have := (HO5.out.cnt.seen.lt sb rfl); omega)⟩
          have HO6 := Lib.hid (HO5.out.all_ ((Below.refl _ w5).alloc (Nat.le_refl _) (.cells (falses m) 4)))
          have hcs : (fn ≤ m - 1 ∧ k1 = fn) ∨ (fn = m ∧ k1 = m - 1) := by omega
          obtain ⟨wb, hwb⟩ : ∃ wb, decide ((q : Int) ∈ P) = wb := ⟨_, rfl⟩
          have Hwb := Lib.hid hwb
          clear hk1 hwb
          have hk20 : k1 ≤ 20 := by omega
          rcases hcs with ⟨h1, h2⟩ | ⟨h1, h2⟩
          all_goals
            first
              | (have d1 : decide ((m : Int) - 1 < (fn : Int)) = false := by simp; omega
                 have e1 : ((k1 : Int) != (fn : Int)) = false := by simp; omega)
              | (have d1 : decide ((m : Int) - 1 < (fn : Int)) = true := by simp; omega
                 have e1 : ((k1 : Int) != (m : Int) - 1) = false := by simp; omega)
            clear h1 h2
            go_wp2_with fail
            go_loopw [24] (fun jv wr => ∃ j : Nat, j ≤ k1 ∧ jv = .int .i64 j ∧ Met wr w2.heap.size 1 A2 c2 k1 w5.heap.size m R j ∧ Onc w wr w2.heap.size sb g d tb i m kk fn s' T P A c l)
              (fun jv _ => k1 - (intOf jv).toNat)
            case atStart => exact ⟨0, Nat.zero_le _, rfl, HM0.out, HO6.out⟩
            case round =>
              clear HM0 HO6 hmk
              obtain ⟨j, hj, rfl, hM, O7⟩ := hrel
              by_cases hjk : j < k1
              · have hRl : R.length = k1 := by have := hM.picked.1; simp [ints] at this; exact this
                have hne : R.getD j 0 ≠ kk := (HIn.out _ (by
                  have hj' : j < R.length := by omega
                  have : R.getD j 0 = R[j] := by simp [hj']
                  rw [this]; exact List.getElem_mem hj')).2.2
                obtain ⟨gx, q2, rfl, hq2, hp2, hcx, hcs, hfs, hM', hgs⟩ := hM.at_ hjk HNd.out (k := m) (fun p hp => mults_of (HIn.out p hp).1 (HIn.out p hp).2.1) (Nat.le_refl _) (by omega)
                obtain ⟨n1, n2, n3, n4, n5, n6⟩ := HN.out
                have HO7 := Lib.hid (O7.far hgs n1 n2 n3 n4 n5 n6)
                have HM' := Lib.hid hM'
                clear hM' hM hgs O7 n1 n2 n3 n4 n5 n6 hRl
                rw [hp2] at hcx hne
                rw [show (1 : Int) * (q2 : Int) = (q2 : Int) by omega] at hcx hne
                have e2 : ((q2 : Int) == kk) = false := beq_false_of_ne hne
                clear hp2 hne
                go_wp2_with fail
                go_roundw
                case rel => exact ⟨j + 1, by omega, by go_num, HM'.out, HO7.out⟩
                case measure => simp [intOf]; omega
              · obtain rfl : j = k1 := by omega
                have hx7 := Hx.out _ O7.cnt.below
                have HO7 := Lib.hid O7
                clear hM O7 hjk hj
                go_wp2_with fail
                refine (flood_any g d tb i m l.length c kk fn s' (-5) T (one (q : Int)) A l _ HO7.out.cnt.gos HZ.out (by omega) (isl_own HO7.out.all (by have := hdl.out; omega)) (by have := hdl.out; omega) (by omega)).mono ?_
                rintro e w8 ⟨v, rfl, ho8, hG8, hg8⟩
                have HO8 := Lib.hid (HO7.out.tld_ hG8 hg8)
                have hx8 := Hx.out _ HO8.out.cnt.below
                have hsc := bools_cell2 HO8.out.cnt.seen hq
                have hfz := HO8.out.cnt.seen.frozenAt q
                rw [Hwb.out] at hsc
                obtain ⟨f1, f2⟩ := HFl.out T (one (q : Int)) wb (by rw [HK.out, Hwb.out])
                have HO9 := Lib.hid (HO8.out.set_ q)
                have HK9 := Lib.hid (knows_put HK.out (q : Int))
                obtain ⟨rl, hrl⟩ : ∃ rl, (flr m kk (-5) T (one (q : Int)) l).length = rl := ⟨_, rfl⟩
                rw [hrl] at ho8 f1 f2
                obtain ⟨A8, c8, rfl⟩ := own_slice ho8
                clear ho8 hG8 hg8 hrl hx7 d1 e1
                cases wb with
                | true =>
                  obtain rfl := f1 rfl
                  clear f1 f2
                  go_wp2_with fail
                  go_roundw
                  case rel => exact ⟨i + 1, by omega, by go_num, _, _, _, HO9.out, HK9.out⟩
                  case measure => simp [intOf]; omega
                | false =>
                  have e8 : ((rl : Int) != (m : Int) - 1) = false := by
                    have := f2 rfl
                    simp; omega
                  clear f1 f2
                  go_wp2_with fail
                  go_roundw
                  case rel => exact ⟨i + 1, by omega, by go_num, _, _, _, HO9.out, HK9.out⟩
                  case measure => simp [intOf]; omega
        · obtain rfl : i = len4 := by omega
          have HB := Lib.hid O.cnt.below
          clear O
          go_wp2_with fail
          go_ret
          exact ⟨rfl, HB.out⟩

set_option maxRecDepth 100000 in
theorem lifted (os : Os) (started : os.Started) (H : Type) (enc : TypeId × Value → H) :
    ReturnsInHanded {} Try.checked os 4 .any (Rows.gossipOnceSpec.pre6 enc Try.prog Try.f4 Rows.gossipOnceRow.domain false) (Rows.gossipOnceSpec.post enc Try.prog Try.f4 false true false false) := by
  refine returnsInHanded_of_change (C := Try.checked) own started (by kernel_rfl) Try.func4
    (ChangeSpec.witness6 (enc := enc) (C := Try.checked) false ⟨#[], #[.int .u8 0, .int .u8 0, .int .u8 0, .int .u64 0, .slice none 0 0], []⟩ 8 (by kernel_rfl) (by kernel_rfl) (by kernel_rfl) (by kernel_rfl)) ?_
  intro W base args ds gs before hval0 hW hcnd _
  have hval : ∀ (j : Nat) t v, Try.f4.params[j]? = some t → args[j]? = some v → Value.okWide Try.prog W .any base t v := hval0
  have hW' := hW
  obtain ⟨p, q, hA0, hV, rfl, hfz, hnd⟩ := hW
  have hA : DataW.TrodAll enc Try.prog W 0 (fun _ => true) true Try.f4.params.toList args.toList ds p := hA0
  rw [Try.params4] at hA hval
  obtain ⟨v0, vs0, d0, ds0, p0, q0, hargs, rfl, rfl, h0, r0⟩ := trodAll_cons hA
  obtain ⟨v1, vs1, d1, ds1, p1, q1, rfl, rfl, rfl, h1, r1⟩ := trodAll_cons r0
  obtain ⟨v2, vs2, d2, ds2, p2, q2, rfl, rfl, rfl, h2, r2⟩ := trodAll_cons r1
  obtain ⟨v3, vs3, d3, ds3, p3, q3, rfl, rfl, rfl, h3, r3⟩ := trodAll_cons r2
  obtain ⟨v4, vs4, d4, ds4, p4, q4, rfl, rfl, rfl, h4, r4⟩ := trodAll_cons r3
  obtain ⟨rfl, rfl, rfl⟩ := trodAll_nil r4
  obtain rfl : args = #[v0, v1, v2, v3, v4] := by cases args; simp_all
  obtain ⟨rfl, rfl⟩ := trodVars_none hV
  obtain ⟨a0, rfl, rfl, rfl, w0⟩ := open_int Try.underlying5 (hval 0 5 v0 rfl rfl) h0
  obtain ⟨a1, rfl, rfl, rfl, w1⟩ := open_int Try.underlying5 (hval 1 5 v1 rfl rfl) h1
  obtain ⟨a2, rfl, rfl, rfl, w2⟩ := open_int Try.underlying5 (hval 2 5 v2 rfl rfl) h2
  obtain ⟨a3, rfl, rfl, rfl, w3⟩ := open_int Try.underlying22 (hval 3 22 v3 rfl rfl) h3
  obtain ⟨a4, len4, cap4, rfl⟩ := okWide_slice Try.underlying48 (hval 4 48 v4 rfl rfl)
  have k4 := h4
  have lt4 : ∀ x ∈ p4, x.block < W.heap.size := by obtain ⟨m, hm⟩ := k4; exact DataW.trod_lt m _ _ _ hm
  obtain ⟨z4, w4⟩ : ∃ zs, IsRow .u8 W a4 len4 cap4 zs := by
    obtain ⟨fuel, hf⟩ := h4
    rcases open_ints Try.underlying48 Try.underlying5 (by kernel_rfl) hf with ⟨hcs, _⟩ | ⟨x, l, c, zs, hcs, _, hl, hm, hz, _, hcell, hwz⟩
    · simp [Value.cells] at hcs
      obtain ⟨rfl, rfl, rfl⟩ := hcs
      exact ⟨[], .inl ⟨rfl, rfl, rfl, rfl⟩⟩
    · simp [Value.cells] at hcs
      obtain ⟨rfl, rfl, rfl⟩ := hcs
      exact ⟨zs, .inr ⟨_, rfl, hl, hm, by simpa using hz, hcell, hwz⟩⟩
  clear hA0 hval0
  refine (walk a0 a1 a2 a3 a4 len4 cap4 z4 W w0 w1 w2 w3 w4).mono fun e W' ⟨he, bel⟩ => ?_
  subst he
  exact ⟨_, rfl, _, _, _, [], _, [], hW', trodAll_mk1 (shut_bool Try.underlying4 _), (trodAll_cons_mk (shut_int Try.underlying5 w0) (trodAll_cons_mk (shut_int Try.underlying5 w1) (trodAll_cons_mk (shut_int Try.underlying5 w2) (trodAll_cons_mk (shut_int Try.underlying22 w3) (trodAll_cons_mk (Below.trod laidOut (by kernel_rfl) (of_decide_eq_true (by kernel_rfl)) k4 bel lt4) trodAll_mk0))))), rfl, bel.frame _, fun h => by cases h⟩

theorem over : Rows.gossipOnceRow.holds Try.pinned (OpenSpec.ofChange Rows.gossipOnceSpec) :=
  OpenClaim.holds_of_wide 4 Try.f4 rfl rfl rfl rfl rfl rfl rfl ⟨rfl, rfl, rfl, rfl, rfl⟩ rfl rfl rfl rfl rfl (by kernel_rfl) Try.func4 (by kernel_rfl)
    (of_decide_eq_true (by kernel_rfl)) (by unfold Func.isWrapper; first | (rw [if_pos (by decide +kernel)]; kernel_rfl) | (rw [if_neg (by decide +kernel)]; exact ⟨rfl, rfl⟩))
    (fun os started H enc _ => lifted os started H enc)

theorem proved : Rows.GossipOnceSaid := over
#print axioms proved
end Go.Proofs.Ytpcppphdbalogaa.gossipOnce
