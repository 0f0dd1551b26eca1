/-
  Gossip: each thing is told on for itself.
-/
import Derived.Test.YtpcppphdbalogaaRows
import Derived.WalkKit
import Derived.ProofKit
import Derived.OpenShut
import Derived.ShutString
import Derived.ChangeOld
import Derived.Below
import Derived.Test.YtpcppphdbalogaaGj
namespace Go.Proofs.Ytpcppphdbalogaa.gossipFloods
open Go.ChangeShapes Go.WideShapes Go.ChangeAt Go.RowKit
open Go.ChangeMaps (open_string shut_string)
set_option linter.unusedVariables false

theorem own : ownKnob Try.prog.godebug = none := by kernel_rfl
theorem laidOut : laidOutB Try.prog = true := by kernel_rfl

/-- a slice of integers that came in: nil, or a row of 'cap' cells, the numbers 'zs', each fitting its kind. -/
def IsRow (k : IntKind) (w : World) (a : Option Addr) (len cap : Nat) (zs : List Int) : Prop :=
  (a = none ∧ len = 0 ∧ cap = 0 ∧ zs = []) ∨
  ∃ x, a = some x ∧ len ≤ cap ∧ cap ≤ maxLen ∧ zs.length = cap ∧ (∀ i, i < zs.length → w.cell? (x.add i) = some (.int k (zs.getD i 0))) ∧ ∀ n ∈ zs, (Lit.int k n).wf = true

set_option maxRecDepth 100000 in
set_option maxHeartbeats 1600000 in
theorem walk (a0 : Option Addr) (len0 cap0 : Nat) (z0 : List Int) (a1 : Option Addr) (len1 cap1 : Nat) (z1 : List Int) (w : World) (w0 : IsRow .u8 w a0 len0 cap0 z0) (w1 : IsRow .u8 w a1 len1 cap1 z1) :
    Calls Try.prog 6 #[.slice a0 len0 cap0, .slice a1 len1 cap1] w fun e w' => e = .returned (.bool true) ∧ Below w.heap.size w w' := by
  obtain ⟨hlc0, hcm0, hrow0⟩ := row_cases8 w0
  obtain ⟨hlc1, hcm1, hrow1⟩ := row_cases8 w1
  have HR0 := Lib.hid hrow0
  have HR1 := Lib.hid hrow1
  have hl1 : len1 ≤ 9223372036854775807 := by unfold maxLen at hcm1; omega
  clear w0 w1 hlc0 hlc1 hcm0 hcm1 hrow0 hrow1
  go_enter Try.func6, Try.ntmps6
  go_wp2_with fail
  refine (awake_any _).mono ?_
  rintro e w1 ⟨rfl, B1⟩
  by_cases hbig : 40 < len0
  · go_wp2_with fail
    go_ret
    exact ⟨rfl, B1⟩
  have hlen : len0 ≤ 40 := by omega
  by_cases hsm : len1 < len0
  · have HB1 := Lib.hid B1
    clear B1
    go_wp2_with fail
    go_ret
    exact ⟨rfl, HB1.out⟩
  have HB1 := Lib.hid B1
  clear B1 hbig
  go_wp2_with fail
  refine (gnew_all 0 1 1 6 w1 (by unfold newOk; omega)).mono ?_
  rintro e w2 ⟨g, d, tb, rfl, G, hg, hd, ht, B2⟩
  have hB2 : Below w.heap.size w w2 := HB1.out.trans (B2.mono HB1.out.size)
  have hws := HB1.out.size
  have C0 : Cnt2 w (w2.alloc (.cells (falses 256) 4)) w2.heap.size w2.heap.size 256 g d tb 0 6 0 1 1 (fun _ => false) [] :=
    ⟨falses_own 256 (by omega) 1 w2, G.all ((Below.refl _ w2).alloc (Nat.le_refl _) _), hB2.alloc hB2.size _, hB2.size, fun e => by have := G.blk.lt; omega, fun e => by have := die_lt G.die; omega, fun e => by have := G.tld.lt; omega, by omega, by omega⟩
  have HC0 := Lib.hid C0
  have hmk : (Instr.makeSlice 49 (.int .i64 256) (.int .i64 256)).run Try.prog w2 = .ok (.slice (some ⟨w2.heap.size, 0, none⟩) 256 256) (w2.alloc (.cells (falses 256) 4)) := make_bools 256 (by omega) w2
  clear C0 G hB2 B2
  go_wp2_with fail
  go_loopw [9, 10, 11, 12, 13, 14] (fun iv _ _ _ _ _ wr => ∃ i : Nat, i ≤ len0 ∧ iv = .int .i64 i ∧ ∃ T P, Cnt2 w wr w2.heap.size w2.heap.size 256 g d tb i 6 0 1 1 T P ∧ Hid (Knows T P))
    (fun iv _ _ _ _ _ _ => len0 - (intOf iv).toNat)
  case atStart => exact ⟨0, Nat.zero_le _, rfl, _, _, HC0.out, knows_nil⟩
  case round =>
    clear HC0 hmk
    obtain ⟨i, hin, rfl, T, P, C, HK⟩ := hrel
    by_cases hlt : i < len0
    · obtain ⟨b0, o0, rfl, hb0, hc0⟩ := HR0.out.resolve_left (by omega)
      obtain ⟨b1, o1, rfl, hb1, hc1⟩ := HR1.out.resolve_left (by omega)
      obtain ⟨hx, wx⟩ := hc0 i hlt
      obtain ⟨hy, wy⟩ := hc1 i (by omega)
      clear hc0 hc1
      have bx := bounds_u8 wx
      have by' := bounds_u8 wy
      clear wy
      generalize z0.getD i 0 = x at hx wx bx
      generalize z1.getD i 0 = y at hy by'
      obtain ⟨q, rfl⟩ : ∃ q : Nat, x = q := ⟨x.toNat, by omega⟩
      have hq : q < 256 := by omega
      have Hx : Hid (∀ wk, Below w.heap.size w wk → wk.cell? ⟨b0, o0 + i, none⟩ = some (.int .u8 (q : Int)) ∧ wk.cell? ⟨b1, o1 + i, none⟩ = some (.int .u8 y)) :=
        fun wk hB => ⟨(hB.cell (p := ⟨b0, o0 + i, none⟩) hb0).trans hx, (hB.cell (p := ⟨b1, o1 + i, none⟩) hb1).trans hy⟩
      have hz : IsH (one (q : Int)) := one_h wx
      have HZ := Lib.hid hz
      clear hx hy wx hz hb0 hb1
      obtain ⟨f, hf⟩ : ∃ f, f = y % 7 := ⟨_, rfl⟩
      have hf0 : 0 ≤ f := by omega
      have hf7 : f < 7 := by omega
      obtain ⟨wb, hwb⟩ : ∃ wb, decide ((q : Int) ∈ P) = wb := ⟨_, rfl⟩
      have HS := Lib.hid (seen_any g d tb i 6 0 1 1 T (one (q : Int)) wr C.gos HZ.out)
      rw [HK.out (q : Int), hwb] at HS
      have HC := Lib.hid C
      obtain ⟨hx, hy⟩ := Hx.out wr C.below
      have Hwb := Lib.hid hwb
      clear C hwb
      go_wp2_with fail
      rw [← hf]
      clear hf by'
      refine HS.out.mono ?_
      rintro e w3 ⟨rfl, B3⟩
      have HC3 := Lib.hid (HC.out.all B3)
      obtain ⟨hx3, hy3⟩ := Hx.out w3 HC3.out.below
      clear B3 hx hy HC HS
      go_wp2_with fail
      obtain ⟨R, hR, hRt, hRf, hRm⟩ := six_flr f hf0 hf7 T (one (q : Int)) wb (by rw [HK.out, Hwb.out])
      refine (flood_lit HC3.out.gos f (one (q : Int)) [0, 1, 2, 3, 4, 5] HZ.out (by omega) (by decide) (by omega)).mono ?_
      rintro e w4 ⟨v, rfl, ho, hG4, hg4⟩
      have hR' : flr 6 0 f T (one (q : Int)) [0, 1, 2, 3, 4, 5] = R := hR
      rw [hR'] at ho
      have HC4 := Lib.hid (HC3.out.tld_ hG4 hg4)
      obtain ⟨hx4, hy4⟩ := Hx.out w4 HC4.out.below
      have hsc := bools_cell2 HC4.out.seen hq
      rw [Hwb.out] at hsc
      have HS2 := Lib.hid (seen_any g d tb (i + 1) 6 0 1 1 _ (one (q : Int)) w4 HC4.out.gos HZ.out)
      have hK2 : put T (one (q : Int)) (one (q : Int)) = true := by simp [put]
      rw [hK2] at HS2
      have HK2 := Lib.hid (knows_put HK.out (q : Int))
      have HRm := Lib.hid hRm
      have hcase : (wb = true ∨ wb = false) ∧ (f = 0 ∨ (0 < f ∧ f < 6) ∨ f = 6) := ⟨by cases wb <;> simp, by omega⟩
      clear hG4 hg4 hR hR' hx3 hy3 HC3 HK hK2 hRm
      obtain ⟨hw2, hf2⟩ := hcase
      rcases hw2 with rfl | rfl <;> rcases hf2 with rfl | ⟨hf3, hf4⟩ | rfl
      all_goals
        first
          | (have hrl : R.length = 0 := hRt rfl)
          | (have hrl : R.length = 4 := (hRf rfl).1 ⟨hf3, hf4⟩)
          | (have hrl : R.length = 5 := (hRf rfl).2 (by omega))
        clear hRt hRf
        rw [hrl] at ho
        obtain ⟨A, c, rfl⟩ := own_slice ho
        have HO4 := Lib.hid ho
        have Hrl := Lib.hid hrl
        clear ho hrl
        go_wp2_with fail
        refine HS2.out.mono ?_
        rintro e w5 ⟨rfl, B5⟩
        have HC5 := Lib.hid (HC4.out.all B5)
        have HO5 := Lib.hid (own_all HO4.out B5)
        clear B5 hx4 hy4 hsc HC4 HO4 HS2
        go_wp2_with fail
        go_loopw [14] (fun jv wi => ∃ j : Nat, j ≤ R.length ∧ jv = .int .i64 j ∧ (∃ B c, wi.ownsRow B 3 1 (.slice A R.length c) R.length (ints R)) ∧ Cnt2 w wi w2.heap.size w2.heap.size 256 g d tb (i + 1) 6 0 1 1 (put T (one (q : Int))) P)
          (fun jv _ => R.length - (intOf jv).toNat)
        case atStart => exact ⟨0, Nat.zero_le _, rfl, ⟨_, _, by rw [Hrl.out]; exact HO5.out⟩, HC5.out⟩
        case round =>
          clear HO5 HC5
          obtain ⟨j, hj, rfl, ⟨B, c', ho⟩, C6⟩ := hrel
          obtain ⟨hx6, hy6⟩ := Hx.out _ C6.below
          have hrl := Hrl.out
          by_cases hjl : j < R.length
          · first
            | (exfalso; omega)
            | (obtain ⟨gx, cx, ex⟩ := own_form ho (by omega)
               injection ex with ex _ ec
               subst ex
               have hcx := own_cell (L := R) (k := j) ho (by omega)
               have hmR := HRm.out (R.getD j 0) (by
                 have : R.getD j 0 = R[j] := by simp [hjl]
                 rw [this]; exact List.getElem_mem hjl)
               obtain ⟨n1, n2⟩ := hmR
               generalize R.getD j 0 = x2 at hcx n1 n2
               have HO6 := Lib.hid ho
               have HC6 := Lib.hid C6
               have Hn1 := Lib.hid n1
               have Hn2 := Lib.hid n2
               clear ho C6 hx6 hy6 n1 n2
               have e1 := beq_false_of_ne Hn1.out
               have e2 := beq_false_of_ne Hn2.out
               rw [hrl] at hjl
               clear hrl
               go_wp2_with fail
               go_roundw
               case rel => exact ⟨j + 1, by have := Hrl.out; omega, by go_num, ⟨_, _, HO6.out⟩, HC6.out⟩
               case measure => have := Hrl.out; simp [intOf]; omega)
          · obtain rfl : j = R.length := by omega
            have hfz := C6.seen.frozenAt q
            have hs6 := bools_cell2 C6.seen hq
            rw [Hwb.out] at hs6
            have HC6 := Lib.hid (C6.set_ (q := q))
            clear ho C6 hy6 hjl
            rw [hrl]
            clear hrl hj
            go_wp2_with fail
            go_roundw
            case rel => exact ⟨i + 1, by omega, by go_num, _, _, HC6.out, HK2.out⟩
            case measure => simp [intOf]; omega
    · obtain rfl : i = len0 := by omega
      have HB := Lib.hid C.below
      clear C
      go_wp2_with fail
      go_ret
      exact ⟨rfl, HB.out⟩

set_option maxRecDepth 100000 in
theorem lifted (os : Os) (started : os.Started) (H : Type) (enc : TypeId × Value → H) :
    ReturnsInHanded {} Try.checked os 6 .any (Rows.gossipFloodsSpec.pre6 enc Try.prog Try.f6 Rows.gossipFloodsRow.domain false) (Rows.gossipFloodsSpec.post enc Try.prog Try.f6 false true false false) := by
  refine returnsInHanded_of_change (C := Try.checked) own started (by kernel_rfl) Try.func6
    (ChangeSpec.witness6 (enc := enc) (C := Try.checked) false ⟨#[], #[.slice none 0 0, .slice none 0 0], []⟩ 8 (by kernel_rfl) (by kernel_rfl) (by kernel_rfl) (by kernel_rfl)) ?_
  intro W base args ds gs before hval0 hW hcnd _
  have hval : ∀ (j : Nat) t v, Try.f6.params[j]? = some t → args[j]? = some v → Value.okWide Try.prog W .any base t v := hval0
  have hW' := hW
  obtain ⟨p, q, hA0, hV, rfl, hfz, hnd⟩ := hW
  have hA : DataW.TrodAll enc Try.prog W 0 (fun _ => true) true Try.f6.params.toList args.toList ds p := hA0
  rw [Try.params6] at hA hval
  obtain ⟨v0, vs0, d0, ds0, p0, q0, hargs, rfl, rfl, h0, r0⟩ := trodAll_cons hA
  obtain ⟨v1, vs1, d1, ds1, p1, q1, rfl, rfl, rfl, h1, r1⟩ := trodAll_cons r0
  obtain ⟨rfl, rfl, rfl⟩ := trodAll_nil r1
  obtain rfl : args = #[v0, v1] := by cases args; simp_all
  obtain ⟨rfl, rfl⟩ := trodVars_none hV
  obtain ⟨a0, len0, cap0, rfl⟩ := okWide_slice Try.underlying48 (hval 0 48 v0 rfl rfl)
  have k0 := h0
  have lt0 : ∀ x ∈ p0, x.block < W.heap.size := by obtain ⟨m, hm⟩ := k0; exact DataW.trod_lt m _ _ _ hm
  obtain ⟨z0, w0⟩ : ∃ zs, IsRow .u8 W a0 len0 cap0 zs := by
    obtain ⟨fuel, hf⟩ := h0
    rcases open_ints Try.underlying48 Try.underlying5 (by kernel_rfl) hf with ⟨hcs, _⟩ | ⟨x, l, c, zs, hcs, _, hl, hm, hz, _, hcell, hwz⟩
    · simp [Value.cells] at hcs
      obtain ⟨rfl, rfl, rfl⟩ := hcs
      exact ⟨[], .inl ⟨rfl, rfl, rfl, rfl⟩⟩
    · simp [Value.cells] at hcs
      obtain ⟨rfl, rfl, rfl⟩ := hcs
      exact ⟨zs, .inr ⟨_, rfl, hl, hm, by simpa using hz, hcell, hwz⟩⟩
  obtain ⟨a1, len1, cap1, rfl⟩ := okWide_slice Try.underlying48 (hval 1 48 v1 rfl rfl)
  have k1 := h1
  have lt1 : ∀ x ∈ p1, x.block < W.heap.size := by obtain ⟨m, hm⟩ := k1; exact DataW.trod_lt m _ _ _ hm
  obtain ⟨z1, w1⟩ : ∃ zs, IsRow .u8 W a1 len1 cap1 zs := by
    obtain ⟨fuel, hf⟩ := h1
    rcases open_ints Try.underlying48 Try.underlying5 (by kernel_rfl) hf with ⟨hcs, _⟩ | ⟨x, l, c, zs, hcs, _, hl, hm, hz, _, hcell, hwz⟩
    · simp [Value.cells] at hcs
      obtain ⟨rfl, rfl, rfl⟩ := hcs
      exact ⟨[], .inl ⟨rfl, rfl, rfl, rfl⟩⟩
    · simp [Value.cells] at hcs
      obtain ⟨rfl, rfl, rfl⟩ := hcs
      exact ⟨zs, .inr ⟨_, rfl, hl, hm, by simpa using hz, hcell, hwz⟩⟩
  clear hA0 hval0
  refine (walk a0 len0 cap0 z0 a1 len1 cap1 z1 W w0 w1).mono fun e W' ⟨he, bel⟩ => ?_
  subst he
  exact ⟨_, rfl, _, _, _, [], _, [], hW', trodAll_mk1 (shut_bool Try.underlying4 _), (trodAll_cons_mk (Below.trod laidOut (by kernel_rfl) (of_decide_eq_true (by kernel_rfl)) k0 bel lt0) (trodAll_cons_mk (Below.trod laidOut (by kernel_rfl) (of_decide_eq_true (by kernel_rfl)) k1 bel lt1) trodAll_mk0)), rfl, bel.frame _, fun h => by cases h⟩

theorem over : Rows.gossipFloodsRow.holds Try.pinned (OpenSpec.ofChange Rows.gossipFloodsSpec) :=
  OpenClaim.holds_of_wide 6 Try.f6 rfl rfl rfl rfl rfl rfl rfl ⟨rfl, rfl, rfl, rfl, rfl⟩ rfl rfl rfl rfl rfl (by kernel_rfl) Try.func6 (by kernel_rfl)
    (of_decide_eq_true (by kernel_rfl)) (by unfold Func.isWrapper; first | (rw [if_pos (by decide +kernel)]; kernel_rfl) | (rw [if_neg (by decide +kernel)]; exact ⟨rfl, rfl⟩))
    (fun os started H enc _ => lifted os started H enc)

theorem proved : Rows.GossipFloodsSaid := over
#print axioms proved
end Go.Proofs.Ytpcppphdbalogaa.gossipFloods
