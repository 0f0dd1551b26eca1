/-
  Gossip: each round tells all who are there.
-/
import Derived.Test.YtpcppphdbalogaaRows
import Derived.WalkKit
import Derived.ProofKit
import Derived.OpenShut
import Derived.ShutString
import Derived.ChangeOld
import Derived.Below
import Derived.Test.YtpcppphdbalogaaGi
namespace Go.Proofs.Ytpcppphdbalogaa.gossipRounds
open Go.ChangeShapes Go.WideShapes Go.ChangeAt Go.RowKit
open Go.ChangeMaps (open_string shut_string)
set_option linter.unusedVariables false

theorem own : ownKnob Try.prog.godebug = none := by kernel_rfl
theorem laidOut : laidOutB Try.prog = true := by kernel_rfl

/-- a slice of integers that came in: nil, or a row of 'cap' cells, the numbers 'zs', each fitting its kind. -/
def IsRow (k : IntKind) (w : World) (a : Option Addr) (len cap : Nat) (zs : List Int) : Prop :=
  (a = none ∧ len = 0 ∧ cap = 0 ∧ zs = []) ∨
  ∃ x, a = some x ∧ len ≤ cap ∧ cap ≤ maxLen ∧ zs.length = cap ∧ (∀ i, i < zs.length → w.cell? (x.add i) = some (.int k (zs.getD i 0))) ∧ ∀ n ∈ zs, (Lit.int k n).wf = true

set_option maxRecDepth 100000 in
set_option maxHeartbeats 1600000 in
theorem walk (a0 : Int) (a1 : Int) (a2 : Int) (a3 : Option Addr) (len3 cap3 : Nat) (z3 : List Int) (w : World) (w0 : (Lit.int .u8 a0).wf = true) (w1 : (Lit.int .u8 a1).wf = true) (w2 : (Lit.int .u64 a2).wf = true) (w3 : IsRow .i64 w a3 len3 cap3 z3) :
    Calls Try.prog 5 #[.int .u8 a0, .int .u8 a1, .int .u64 a2, .slice a3 len3 cap3] w fun e w' => e = .returned (.bool true) ∧ Below w.heap.size w w' := by
  obtain ⟨hlc, hcm, hrow⟩ := row_cases w3
  have b0 := bounds_u8 w0
  have b1 := bounds_u8 w1
  have HR := Lib.hid hrow
  clear w0 w1 w2 w3 hlc hcm hrow
  obtain ⟨m, hm⟩ : ∃ m : Nat, (m : Int) = a1 % 20 + 1 := ⟨(a1 % 20 + 1).toNat, by omega⟩
  have hm1 : 1 ≤ m := by omega
  have hm2 : m ≤ 20 := by omega
  go_enter Try.func5, Try.ntmps5
  go_wp2_with fail
  refine (awake_any _).mono ?_
  rintro e w1 ⟨rfl, B1⟩
  by_cases hbig : 40 < len3
  · go_wp2_with fail
    go_ret
    exact ⟨rfl, B1⟩
  have hlen : len3 ≤ 40 := by omega
  have HB1 := Lib.hid B1
  clear B1 hbig
  go_wp2_with fail
  rw [← hm]
  obtain ⟨kk, hkk⟩ : ∃ kk, kk = a0 % (m : Int) := ⟨_, rfl⟩
  have hk0 : 0 ≤ kk := by rw [hkk]; exact Int.emod_nonneg _ (by omega)
  have hk1 : kk < (m : Int) := by rw [hkk]; exact Int.emod_lt_of_pos _ (by omega)
  rw [← hkk]
  clear hkk hm b0 b1
  refine (gnew_all kk m a2 m w1 (by unfold newOk; omega)).mono ?_
  rintro e w2 ⟨g, d, tb, rfl, G, hg, hd, ht, B2⟩
  have hB2 : Below w.heap.size w w2 := HB1.out.trans (B2.mono HB1.out.size)
  have hws := HB1.out.size
  have C0 : Cnt w (w2.alloc (.cells (falses m) 4)) w2.heap.size w2.heap.size g d tb 0 m kk m a2 (fun _ => false) (oth m kk (fun _ => true) ((rowOf z3 len3).take 0)) :=
    ⟨falses_own m (by omega) 1 w2, G.all ((Below.refl _ w2).alloc (Nat.le_refl _) _), hB2.alloc hB2.size _, hB2.size, fun e => by have := G.blk.lt; omega, fun e => by have := die_lt G.die; omega, fun e => by have := G.tld.lt; omega, by omega, by omega⟩
  have HC0 := Lib.hid C0
  have hmk := make_bools m (by omega) w2
  have hzl := rowOf_length z3 len3
  have hrg : ∀ i, i < len3 → (rowOf z3 len3).getD i 0 = z3.getD i 0 := fun i hi => by simp [rowOf, hi]
  have HRG := Lib.hid hrg
  have HIL : Hid (∀ wr, Below w.heap.size w wr → IsL wr a3 len3 (rowOf z3 len3)) := fun wr hB => isl_row HR.out hB (by omega)
  generalize rowOf z3 len3 = l at HC0 hzl HRG HIL
  clear C0 G hB2 hrg B2
  go_wp2_with fail
  go_loopw [15, 16] (fun cv iv wr => ∃ i : Nat, i ≤ len3 ∧ iv = .int .i64 i ∧ cv = .int .i64 (oth m kk (fun _ => true) (l.take i)).length ∧ Cnt w wr w2.heap.size w2.heap.size g d tb 0 m kk m a2 (fun _ => false) (oth m kk (fun _ => true) (l.take i)))
    (fun _ iv _ => len3 - (intOf iv).toNat)
  case atStart => exact ⟨0, Nat.zero_le _, rfl, rfl, HC0.out⟩
  case round =>
    clear HC0 hmk
    obtain ⟨i, hin, rfl, rfl, C⟩ := hrel
    by_cases hlt : i < len3
    · obtain ⟨ab, off, rfl, hab, hcz⟩ := HR.out.resolve_left (by omega)
      have hcw := (C.below.cell (p := ⟨ab, off + i, none⟩) hab).trans (hcz i hlt).1
      clear hcz
      have hPl : (oth m kk (fun _ => true) (l.take i)).length ≤ 40 := Nat.le_trans (oth_length _ _ _ _) (by simp; omega)
      have hnx := oth_take (many := m) (me := kk) (may := fun _ => true) (l := l) (i := i) (by omega)
      rw [HRG.out i hlt] at hnx
      obtain ⟨k, hk⟩ : ∃ k, z3.getD i 0 = k := ⟨_, rfl⟩
      rw [hk] at hcw hnx
      clear hk
      have HN := Lib.hid hnx
      clear hnx
      have hskip : canTell m kk (fun _ => true) (oth m kk (fun _ => true) (l.take i)) k = false → Hid (oth m kk (fun _ => true) (l.take (i + 1)) = oth m kk (fun _ => true) (l.take i)) := fun h => by
        show _ = _
        rw [HN.out, othStep, h]; rfl
      have hyes : canTell m kk (fun _ => true) (oth m kk (fun _ => true) (l.take i)) k = true → Hid (oth m kk (fun _ => true) (l.take (i + 1)) = oth m kk (fun _ => true) (l.take i) ++ [k]) := fun h => by
        show _ = _
        rw [HN.out, othStep, h]; rfl
      have HC := Lib.hid C
      by_cases h1 : k < 0
      · have S := hskip (by simp [canTell]; omega)
        clear hskip hyes C
        go_wp2_with fail
        go_roundw
        case rel => exact ⟨i + 1, by omega, by go_num, by rw [S.out], by rw [S.out]; exact HC.out⟩
        case measure => simp [intOf]; omega
      by_cases h2 : (m : Int) ≤ k
      · have S := hskip (by simp [canTell]; omega)
        clear hskip hyes C
        go_wp2_with fail
        go_roundw
        case rel => exact ⟨i + 1, by omega, by go_num, by rw [S.out], by rw [S.out]; exact HC.out⟩
        case measure => simp [intOf]; omega
      by_cases h3 : k = kk
      · have S := hskip (by simp [canTell, h3])
        clear hskip hyes C HN
        subst h3
        go_wp2_with fail
        go_roundw
        case rel => exact ⟨i + 1, by omega, by go_num, by rw [S.out], by rw [S.out]; exact HC.out⟩
        case measure => simp [intOf]; omega
      obtain ⟨q, rfl⟩ : ∃ q : Nat, k = q := ⟨k.toNat, by omega⟩
      have hq : q < m := by omega
      have hsc := bools_cell2 C.seen hq
      by_cases h4 : (q : Int) ∈ oth m kk (fun _ => true) (l.take i)
      · have S := hskip (by simp [canTell, h4])
        rw [decide_eq_true h4] at hsc
        clear hskip hyes C HN h4
        go_wp2_with fail
        go_roundw
        case rel => exact ⟨i + 1, by omega, by go_num, by rw [S.out], by rw [S.out]; exact HC.out⟩
        case measure => simp [intOf]; omega
      have S := hyes (by simp [canTell, h4, h3]; omega)
      rw [decide_eq_false h4] at hsc
      have hfz : wr.frozen? ⟨w2.heap.size, q, none⟩ = false := C.seen.frozenAt q
      clear hskip hyes C HN h4
      go_wp2_with fail
      go_roundw
      case rel => exact ⟨i + 1, by omega, by go_num, by rw [S.out]; simp; try go_num, by rw [S.out]; exact HC.out.set_⟩
      case measure => simp [intOf]; omega
    · obtain rfl : i = len3 := by omega
      have e1 : l.take i = l := List.take_of_length_le (by omega)
      rw [e1] at C ⊢
      have hPm : ∀ x ∈ oth m kk (fun _ => true) l, 0 ≤ x ∧ x < (m : Int) := fun x hx => by have := (oth_mem _ _ _ _ _).1 hx; exact ⟨this.2.1, this.2.2.1⟩
      have hPl : (oth m kk (fun _ => true) l).length ≤ 20 := Nat.le_trans (oth_bound m kk (fun _ => true) l) hm2
      have HRd : Hid (∀ wr2 s, Cnt w wr2 w2.heap.size w2.heap.size g d tb 0 m kk m s (fun _ => false) (oth m kk (fun _ => true) l) → Calls Try.prog 10 #[.pointer (some ⟨g, 0, none⟩), .slice a3 i cap3] wr2 fun e w5 => ∃ A c R s', e = .returned (.slice A (oth m kk (fun _ => true) l).length c) ∧
          w5.ownsRow wr2.heap.size 3 1 (.slice A (oth m kk (fun _ => true) l).length c) (oth m kk (fun _ => true) l).length (ints R) ∧ (∀ x ∈ R, x ∈ oth m kk (fun _ => true) l) ∧ Cnt w w5 w2.heap.size w2.heap.size g d tb 0 m kk m s' (fun _ => false) (oth m kk (fun _ => true) l)) := by
        intro wr2 s C2
        refine (round_any g d tb 0 m i cap3 kk m s (fun _ => false) a3 l wr2 C2.gos (by omega) (HIL.out _ C2.below) (by omega)).mono ?_
        rintro e w5 ⟨v, rfl, ho, hG, hg5⟩
        rw [want_all] at ho
        obtain ⟨A, c, rfl⟩ := own_slice ho
        exact ⟨A, c, _, _, rfl, ho, Dp.pick_mem nx vl s _ _, C2.die_ hG hg5⟩
      clear e1 HIL HRG
      generalize oth m kk (fun _ => true) l = P at C hPm hPl HRd ⊢
      have HC := Lib.hid C
      clear C
      go_wp2_with fail
      go_loopw [17, 18, 19] (fun tv _ _ wr2 => ∃ t : Nat, t ≤ 3 ∧ tv = .int .i64 t ∧ ∃ s, Cnt w wr2 w2.heap.size w2.heap.size g d tb 0 m kk m s (fun _ => false) P)
        (fun tv _ _ _ => 3 - (intOf tv).toNat)
      case atStart => exact ⟨0, by omega, rfl, a2, HC.out⟩
      case round =>
        clear HC
        obtain ⟨t, ht3, rfl, s, C⟩ := hrel
        by_cases htl : t < 3
        · have HRc := Lib.hid (HRd.out _ s C)
          clear C
          go_wp2_with fail
          refine HRc.out.mono ?_
          rintro e w5 ⟨A, c, R, s', rfl, ho, hmem, C5⟩
          have hb5 := C5.below.size
          have HO := Lib.hid ho
          have HC5 := Lib.hid C5
          have HM := Lib.hid hmem
          clear ho C5 hmem HRc
          go_wp2_with fail
          go_loopw [19] (fun jv wi => ∃ j : Nat, j ≤ P.length ∧ jv = .int .i64 j ∧ (∃ B, wi.ownsRow B 3 1 (.slice A P.length c) P.length (ints R)) ∧ Cnt w wi w2.heap.size w2.heap.size g d tb 0 m kk m s' (fun _ => false) P)
            (fun jv _ => P.length - (intOf jv).toNat)
          case atStart => exact ⟨0, Nat.zero_le _, rfl, ⟨_, HO.out⟩, HC5.out⟩
          case round =>
            clear HO HC5
            obtain ⟨j, hj, rfl, ⟨B, ho⟩, C6⟩ := hrel
            by_cases hjl : j < P.length
            · have hRl : R.length = P.length := by have := ho.1; simp [ints] at this; exact this
              obtain ⟨gx, cx, ex⟩ := own_form ho (by omega)
              injection ex with ex _ ec
              subst ex
              subst ec
              have hcx := own_cell ho hjl
              have hmP : R.getD j 0 ∈ P := HM.out _ (by
                have hj' : j < R.length := by omega
                have : R.getD j 0 = R[j] := by simp [hj']
                rw [this]; exact List.getElem_mem hj')
              have hbd := hPm _ hmP
              generalize R.getD j 0 = x at hcx hmP hbd
              obtain ⟨q, rfl⟩ : ∃ q : Nat, x = q := ⟨x.toNat, by omega⟩
              have hsc := bools_cell2 C6.seen (q := q) (by omega)
              rw [decide_eq_true hmP] at hsc
              have HO6 := Lib.hid ho
              have HC6 := Lib.hid C6
              have hq1 : q < m := by omega
              clear hmP hbd ho C6 hPm
              go_wp2_with fail
              go_roundw
              case rel => exact ⟨j + 1, by omega, by go_num, ⟨_, HO6.out⟩, HC6.out⟩
              case measure => simp [intOf]; omega
            · obtain rfl : j = P.length := by omega
              have HC6 := Lib.hid C6
              clear C6 ho hPm
              go_wp2_with fail
              go_roundw
              case rel => exact ⟨t + 1, by omega, by go_num, s', HC6.out⟩
              case measure => simp [intOf]; omega
        · obtain rfl : t = 3 := by omega
          have HB := Lib.hid C.below
          clear C hPm
          go_wp2_with fail
          go_ret
          exact ⟨rfl, HB.out⟩

set_option maxRecDepth 100000 in
theorem lifted (os : Os) (started : os.Started) (H : Type) (enc : TypeId × Value → H) :
    ReturnsInHanded {} Try.checked os 5 .any (Rows.gossipRoundsSpec.pre6 enc Try.prog Try.f5 Rows.gossipRoundsRow.domain false) (Rows.gossipRoundsSpec.post enc Try.prog Try.f5 false true false false) := by
  refine returnsInHanded_of_change (C := Try.checked) own started (by kernel_rfl) Try.func5
    (ChangeSpec.witness6 (enc := enc) (C := Try.checked) false ⟨#[], #[.int .u8 0, .int .u8 0, .int .u64 0, .slice none 0 0], []⟩ 8 (by kernel_rfl) (by kernel_rfl) (by kernel_rfl) (by kernel_rfl)) ?_
  intro W base args ds gs before hval0 hW hcnd _
  have hval : ∀ (j : Nat) t v, Try.f5.params[j]? = some t → args[j]? = some v → Value.okWide Try.prog W .any base t v := hval0
  have hW' := hW
  obtain ⟨p, q, hA0, hV, rfl, hfz, hnd⟩ := hW
  have hA : DataW.TrodAll enc Try.prog W 0 (fun _ => true) true Try.f5.params.toList args.toList ds p := hA0
  rw [Try.params5] at hA hval
  obtain ⟨v0, vs0, d0, ds0, p0, q0, hargs, rfl, rfl, h0, r0⟩ := trodAll_cons hA
  obtain ⟨v1, vs1, d1, ds1, p1, q1, rfl, rfl, rfl, h1, r1⟩ := trodAll_cons r0
  obtain ⟨v2, vs2, d2, ds2, p2, q2, rfl, rfl, rfl, h2, r2⟩ := trodAll_cons r1
  obtain ⟨v3, vs3, d3, ds3, p3, q3, rfl, rfl, rfl, h3, r3⟩ := trodAll_cons r2
  obtain ⟨rfl, rfl, rfl⟩ := trodAll_nil r3
  obtain rfl : args = #[v0, v1, v2, v3] := by cases args; simp_all
  obtain ⟨rfl, rfl⟩ := trodVars_none hV
  obtain ⟨a0, rfl, rfl, rfl, w0⟩ := open_int Try.underlying5 (hval 0 5 v0 rfl rfl) h0
  obtain ⟨a1, rfl, rfl, rfl, w1⟩ := open_int Try.underlying5 (hval 1 5 v1 rfl rfl) h1
  obtain ⟨a2, rfl, rfl, rfl, w2⟩ := open_int Try.underlying22 (hval 2 22 v2 rfl rfl) h2
  obtain ⟨a3, len3, cap3, rfl⟩ := okWide_slice Try.underlying34 (hval 3 34 v3 rfl rfl)
  have k3 := h3
  have lt3 : ∀ x ∈ p3, x.block < W.heap.size := by obtain ⟨m, hm⟩ := k3; exact DataW.trod_lt m _ _ _ hm
  obtain ⟨z3, w3⟩ : ∃ zs, IsRow .i64 W a3 len3 cap3 zs := by
    obtain ⟨fuel, hf⟩ := h3
    rcases open_ints Try.underlying34 Try.underlying3 (by kernel_rfl) hf with ⟨hcs, _⟩ | ⟨x, l, c, zs, hcs, _, hl, hm, hz, _, hcell, hwz⟩
    · simp [Value.cells] at hcs
      obtain ⟨rfl, rfl, rfl⟩ := hcs
      exact ⟨[], .inl ⟨rfl, rfl, rfl, rfl⟩⟩
    · simp [Value.cells] at hcs
      obtain ⟨rfl, rfl, rfl⟩ := hcs
      exact ⟨zs, .inr ⟨_, rfl, hl, hm, by simpa using hz, hcell, hwz⟩⟩
  clear hA0 hval0
  refine (walk a0 a1 a2 a3 len3 cap3 z3 W w0 w1 w2 w3).mono fun e W' ⟨he, bel⟩ => ?_
  subst he
  exact ⟨_, rfl, _, _, _, [], _, [], hW', trodAll_mk1 (shut_bool Try.underlying4 _), (trodAll_cons_mk (shut_int Try.underlying5 w0) (trodAll_cons_mk (shut_int Try.underlying5 w1) (trodAll_cons_mk (shut_int Try.underlying22 w2) (trodAll_cons_mk (Below.trod laidOut (by kernel_rfl) (of_decide_eq_true (by kernel_rfl)) k3 bel lt3) trodAll_mk0)))), rfl, bel.frame _, fun h => by cases h⟩

theorem over : Rows.gossipRoundsRow.holds Try.pinned (OpenSpec.ofChange Rows.gossipRoundsSpec) :=
  OpenClaim.holds_of_wide 5 Try.f5 rfl rfl rfl rfl rfl rfl rfl ⟨rfl, rfl, rfl, rfl, rfl⟩ rfl rfl rfl rfl rfl (by kernel_rfl) Try.func5 (by kernel_rfl)
    (of_decide_eq_true (by kernel_rfl)) (by unfold Func.isWrapper; first | (rw [if_pos (by decide +kernel)]; kernel_rfl) | (rw [if_neg (by decide +kernel)]; exact ⟨rfl, rfl⟩))
    (fun os started H enc _ => lifted os started H enc)

theorem proved : Rows.GossipRoundsSaid := over
#print axioms proved
end Go.Proofs.Ytpcppphdbalogaa.gossipRounds
