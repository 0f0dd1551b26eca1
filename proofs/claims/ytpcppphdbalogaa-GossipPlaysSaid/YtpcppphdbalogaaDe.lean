/-
  Dice: the reference's Pick: it picks as the plain 'pick' does.
-/
import Derived.Test.YtpcppphdbalogaaDc
namespace Go.Proofs.Ytpcppphdbalogaa
open Go.RowKit Go.Sort

theorem ret_pair {a b c d : Int} (h1 : a = c) (h2 : b = d) : Ending.returned (.tuple #[.int .u64 a, .int .i64 b]) = .returned (.tuple #[.int .u64 c, .int .i64 d]) := by rw [h1, h2]

theorem rbel_any (n : Nat) (s : Int) (w : World) (hm : (n : Int) ≤ 9223372036854775807) :
    Calls Try.prog 27 #[.int .u64 s, .int .i64 n] w fun e w' => e = .returned (.tuple #[.int .u64 (Dp.bel nx vl s n).1, .int .i64 ((Dp.bel nx vl s n).2 : Nat)]) ∧ ∃ q, w' = w.drewN q := by
  by_cases hn : n < 2
  · refine (rbel_lo s n w (by omega)).mono ?_
    rintro e w' ⟨rfl, rfl⟩
    have e1 : Dp.bel nx vl s n = (s, 0) := by unfold Dp.bel; rw [if_pos hn]
    rw [e1]
    exact ⟨rfl, 0, rfl⟩
  · refine (rbel_hi s n w (by omega) hm).mono ?_
    rintro e w' ⟨rfl, q, rfl⟩
    have e1 : Dp.bel nx vl s n = (nx s, (vl s % (n : Int)).toNat) := by unfold Dp.bel; rw [if_neg hn]
    rw [e1]
    refine ⟨ret_pair rfl ?_, q, rfl⟩
    have := Int.emod_nonneg (vl s) (b := (n : Int)) (by omega)
    show vl s % (n : Int) = ((vl s % (n : Int)).toNat : Int)
    omega

/-- what holds ahead of each round of the reference's Pick. -/
structure RelR (w wr : World) (lv ov : Value) (t : Dp.St) : Prop where
  left : wr.ownsRow w.heap.size 3 1 lv t.left.length (ints t.left)
  out : wr.ownsRow w.heap.size 3 1 ov t.out.length (ints t.out)
  apart : ∀ k, lv.ownBlock = some k → ov.ownBlock ≠ some k
  below : Below w.heap.size w wr

theorem below_row {w a a' : World} {v : Value} {base n : Nat} {xs : List Value} (h : Below w.heap.size w a) (g : a.grownBy a' v.ownBlock) (hv : a.ownsRow base 3 1 v n xs) (hb : w.heap.size ≤ base) : Below w.heap.size w a' :=
  h.grown g h.size (fun k e => by have := (hv.lt k e).1; omega)

theorem reads_one (w : World) (u : Value) (e : TypeId) : Reads (w.alloc (.cells #[u] e)) (w.heap.size + 1) 1 (some ⟨w.heap.size, 0, none⟩) 1 [u] :=
  ⟨rfl, fun _ => ⟨_, rfl, Nat.lt_succ_self _, fun j v hv => by
    match j, hv with
    | 0, hv => simp at hv; subst hv; simp [Addr.add]⟩⟩

theorem reads_take {w : World} {B n k : Nat} {A : Option Addr} {L : List Int} (h : Reads w B 1 A n (ints L)) (hk : k < n) : Reads w B 1 A k (ints (L.take k)) := by
  have hl := h.1
  simp [ints] at hl
  refine ⟨by simp [ints]; omega, fun h0 => ?_⟩
  obtain ⟨ad, e, hb, hc⟩ := h.2 (by omega)
  refine ⟨ad, e, hb, fun j u hu => hc j u ?_⟩
  rw [ints, List.map_take, List.getElem?_take] at hu
  split at hu
  · exact hu
  · cases hu
theorem reads_drop {w : World} {B B' n k g : Nat} {A : Option Addr} {L : List Int} (h : Reads w B 1 (some ⟨g, 0, none⟩) n (ints L)) (hA : A = some ⟨g, k, none⟩ ∧ B ≤ B' ∨ n ≤ k) : Reads w B' 1 A (n - k) (ints (L.drop k)) := by
  have hl := h.1
  simp [ints] at hl
  refine ⟨by simp [ints]; omega, fun h0 => ?_⟩
  rcases hA with ⟨rfl, hB⟩ | hA
  · obtain ⟨ad, e, hb, hc⟩ := h.2 (by omega)
    injection e with e
    subst e
    refine ⟨_, rfl, Nat.lt_of_lt_of_le hb hB, fun j u hu => ?_⟩
    rw [ints, List.map_drop, List.getElem?_drop] at hu
    have := hc (k + j) u hu
    rw [Addr.add_lit] at this
    rw [Addr.add_lit]
    rwa [Nat.zero_add] at this
  · omega
theorem ref_end {w w3 w4 w5 : World} {j p : Nat} {S x : Int} {L O : List Int} {v3 v4 v5 : Value} (hW3 : Below w.heap.size w w3) (ho3 : w3.ownsRow w.heap.size 3 1 v3 (O ++ [x]).length (ints (O ++ [x])))
    (hg4 : w3.grownBy w4 (Value.slice none 0 0).ownBlock) (hn4 : w4.ownsRow w3.heap.size 3 1 v4 j (ints (L.take j))) (hg5 : w4.grownBy w5 v4.ownBlock)
    (hn5 : w5.ownsRow w3.heap.size 3 1 v5 p (ints (L.take j) ++ ints (L.drop (j + 1)))) (hp : p = j + (L.length - (j + 1))) (hj : j < L.length) : RelR w w5 v5 v3 ⟨S, L.take j ++ L.drop (j + 1), O ++ [x]⟩ := by
  have hlen : (L.take j ++ L.drop (j + 1)).length = j + (L.length - (j + 1)) := by simp; omega
  subst hp
  have hv3 : ∀ k, v3.ownBlock = some k → k < w3.heap.size := fun k e => (ho3.lt k e).2
  have ho4 := ho3.kept hg4 (by cases hv : v3.ownBlock <;> simp [Value.ownBlock])
  have hne : v3.ownBlock = none ∨ v3.ownBlock ≠ v4.ownBlock := by
    cases hv : v3.ownBlock with
    | none => exact .inl rfl
    | some k => exact .inr (fun e => by have h1 := hv3 k hv; have h2 := (hn4.lt k e.symm).1; omega)
  have hW4 : Below w.heap.size w w4 := hW3.grown hg4 hW3.size (fun k e => by simp [Value.ownBlock] at e)
  refine ⟨by rw [hlen]; simpa [ints] using own_base hn5 hW3.size, ho4.kept hg5 hne, fun k e1 e2 => ?_, hW4.grown hg5 hW4.size (fun k e => by have := (hn4.lt k e).1; have := hW3.size; omega)⟩
  have h1 := (hn5.lt k e1).1
  have h2 := hv3 k e2
  omega
theorem one_cell (x : Int) : ∀ u ∈ [Value.int .i64 x], u.oneCell' = true := fun u hu => by simp at hu; subst hu; rfl
theorem ref_mid {w w2 w3 : World} {g cap : Nat} {x : Int} {L O : List Int} {ov v3 : Value} {o : Obj} (hW : Below w.heap.size w w2)
    (hl : w2.ownsRow w.heap.size 3 1 (.slice (some ⟨g, 0, none⟩) L.length cap) L.length (ints L)) (ho : w2.ownsRow w.heap.size 3 1 ov O.length (ints O))
    (hgrow : (w2.alloc o).grownBy w3 ov.ownBlock) (hown : w3.ownsRow w.heap.size 3 1 v3 (O.length + 1) (ints O ++ [.int .i64 x])) (ha : ov.ownBlock ≠ some g)
    (hb : v3.ownBlock = ov.ownBlock ∨ v3.ownBlock = some (w2.heap.size + 1)) :
    w3.ownsRow w.heap.size 3 1 (.slice (some ⟨g, 0, none⟩) L.length cap) L.length (ints L) ∧ w3.ownsRow w.heap.size 3 1 v3 (O ++ [x]).length (ints (O ++ [x])) ∧ v3.ownBlock ≠ some g ∧ Below w.heap.size w w3 := by
  have hg := (hl.lt g rfl).2
  refine ⟨(hl.alloc o).kept hgrow (.inr (fun e => ha e.symm)), by simpa [ints] using hown, ?_, (hW.alloc hW.size o).grown hgrow (by have := hW.size; simp; omega) (fun k e => (ho.lt k e).1)⟩
  rcases hb with e | e <;> rw [e]
  · exact ha
  · intro h; injection h with h; omega

set_option maxHeartbeats 800000 in
theorem rpick_any (s many : Int) (a : Option Addr) (n c : Nat) (zs : List Int) (w : World) (h : IsL w a n zs) :
    Calls Try.prog 21 #[.int .u64 s, .slice a n c, .int .i64 many] w fun e w' => ∃ v, e = .returned (.tuple #[.int .u64 (Dp.pick nx vl s zs many).1, v]) ∧
      w'.ownsRow w.heap.size 3 1 v (Dp.want zs many) (ints (Dp.pick nx vl s zs many).2) ∧ Below w.heap.size w w' := by
  have hn : n ≤ 17592186044416 := by have := h.2.1; omega
  have HL := Lib.hid h.1
  have hrd := h.2.2
  obtain ⟨i0, hi, hz0, hz1, hz2⟩ := info_parts Try.info3
  go_enter Try.func21, Try.ntmps21
  go_wp2_with (at_builtin; go_must (refine wpList_append_any _ rfl (.tmp 14) (.tmp 15) _ rfl w.heap.size 3 i0 _ 1 8 Try.underlying34 hi hz0 hz1 hz2 rfl (by omega) (.slice none 0 0) 0 [] rfl (World.ownsRow_nil _ _ _ _) w.heap.size a n c (ints zs) rfl hrd (ints_oneCell _ _) (by simp only [maxLen]; omega) (by omega) (Nat.le_refl _) ?_))
  intro v1 w1 hl1 hg1 _
  have R1 : RelR w w1 v1 (.slice none 0 0) (Dp.pk nx vl 0 s zs) :=
    ⟨by rw [← HL.out] at hl1; exact hl1, World.ownsRow_nil _ _ _ _, fun k _ => by simp [Value.ownBlock], (Below.refl _ _).grown hg1 (Nat.le_refl _) (by simp [Value.ownBlock])⟩
  clear hl1 hg1
  go_wp2
  go_loopw [0, 8, 9, 10] (fun sv lv ov cv wr => ∃ k : Nat, k ≤ Dp.want zs many ∧ cv = .int .i64 k ∧ sv = .int .u64 (Dp.pk nx vl k s zs).s ∧ RelR w wr lv ov (Dp.pk nx vl k s zs))
    (fun _ _ _ cv _ => Dp.want zs many - (intOf cv).toNat)
  case atStart => exact ⟨0, Nat.zero_le _, rfl, rfl, R1⟩
  case round =>
    obtain ⟨k, hk, rfl, rfl, R⟩ := hrel
    have hwn : Dp.want zs many ≤ n := by have := HL.out; unfold Dp.want; omega
    have hpk := Dp.pk_all nx vl k s zs (by rw [HL.out]; omega)
    rw [HL.out] at hpk
    by_cases hlt : k < Dp.want zs many
    · have h1 : (k : Int) < many := by unfold Dp.want at hlt; omega
      have hstep : Hid (Dp.pk nx vl (k + 1) s zs = Dp.stp nx vl (Dp.pk nx vl k s zs)) := by show _ = _; rfl
      generalize Dp.pk nx vl k s zs = t at R hstep hpk
      obtain ⟨S, L, O⟩ := t
      obtain ⟨hL, hO, _⟩ := hpk
      simp only at hL hO
      have hOk : O.length ≤ k := by omega
      have hL0 : 0 < L.length := by omega
      have hLn : L.length ≤ n := by omega
      have hbj := Dp.bel_lt nx vl S L.length hL0
      have hLf : wr.ownsRow w.heap.size 3 1 _ L.length (ints L) := R.left
      obtain ⟨g, cap, rfl⟩ := own_form hLf hL0
      have HB0 : Calls Try.prog 27 #[.int .u64 S, .int .i64 L.length] wr fun e w' => e = .returned (.tuple #[.int .u64 (Dp.bel nx vl S L.length).1, .int .i64 ((Dp.bel nx vl S L.length).2 : Nat)]) ∧ Hid (RelR w w' (.slice (some ⟨g, 0, none⟩) L.length cap) _ ⟨S, L, O⟩) :=
        (rbel_any L.length S wr (by omega)).mono (by rintro e w' ⟨rfl, q, rfl⟩; exact ⟨rfl, ⟨R.left, R.out, R.apart, ⟨R.below.os, R.below.tape, R.below.output, R.below.size, R.below.block⟩⟩⟩)
      have HB := Lib.hid HB0
      clear HB0
      have hs2 : Hid (Dp.pk nx vl (k + 1) s zs = ⟨(Dp.bel nx vl S L.length).1, L.take (Dp.bel nx vl S L.length).2 ++ L.drop ((Dp.bel nx vl S L.length).2 + 1), O ++ [L.getD (Dp.bel nx vl S L.length).2 0]⟩) := hstep.out
      clear hstep
      generalize Dp.bel nx vl S L.length = q at HB hbj hs2
      obtain ⟨S', j⟩ := q
      simp only at hbj hs2
      clear hL hO
      have hx0 : L[j]? = some (L.getD j 0) := by simp [hbj]
      generalize L.getD j 0 = x at hs2 hx0
      have HX := Lib.hid hx0
      clear hx0
      go_wp2_with fail
      refine HB.out.mono ?_
      rintro e w2 ⟨rfl, R2⟩
      have hl2 : w2.ownsRow w.heap.size 3 1 (.slice (some ⟨g, 0, none⟩) L.length cap) L.length (ints L) := R2.out.left
      have ho2 : w2.ownsRow w.heap.size 3 1 u9 O.length (ints O) := R2.out.out
      have hcap := own_cap hl2
      have hcapm : cap ≤ 9223372036854775807 := by have := hcap.2; unfold maxLen at this; omega
      have hcell : w2.cell? ⟨g, j, none⟩ = some (.int .i64 x) := by
        have := hl2.cellAt j (by simpa using hbj)
        rw [this, ints, List.getElem?_map, HX.out]; rfl
      have HA := Lib.hid (R2.out.apart g rfl)
      have HW := Lib.hid R2.out.below
      have hOl : O.length ≤ n := by omega
      go_wp2_with (at_builtin; go_must (refine wpList_append_any _ rfl (.tmp 35) (.tmp 40) _ rfl w.heap.size 3 i0 _ 1 8 Try.underlying34 hi hz0 hz1 hz2 rfl (by omega) u9 O.length (ints O) rfl (ho2.alloc _) (w2.heap.size + 1) (some ⟨w2.heap.size, 0, none⟩) 1 1 [.int .i64 x] rfl (reads_one _ _ _) (one_cell x) ?c3 ?c4 ?c5 ?_))
      case c3 => unfold maxLen; omega
      case c4 => omega
      case c5 => have := HW.out.size; simp; omega
      intro v3 w3 ho3 hg3 hb3
      have R3 := ref_mid HW.out hl2 ho2 hg3 ho3 HA.out hb3
      clear ho3 hg3 hb3 hl2 ho2 hcell
      obtain ⟨hl3, ho3, ha3, hW3⟩ := R3
      have HO3 := Lib.hid ho3
      have HA3 := Lib.hid ha3
      have HW3 := Lib.hid hW3
      clear ho3 ha3 hW3
      have hr3 := Reads.of_own hl3
      have hjc : (j : Int) ≤ cap := by omega
      have hjc1 : (j : Int) + 1 ≤ cap := by omega
      go_wp2_with (at_builtin; go_must (refine wpList_append_any _ rfl (.tmp 42) (.tmp 45) _ rfl w3.heap.size 3 i0 _ 1 8 Try.underlying34 hi hz0 hz1 hz2 rfl (by omega) (.slice none 0 0) 0 [] rfl (World.ownsRow_nil _ _ _ _) w3.heap.size (some ⟨g, 0, none⟩) j cap (ints (L.take j)) rfl (reads_take hr3 hbj) (ints_oneCell _ _) ?c3 ?c4 (Nat.le_refl _) ?_))
      case c3 => unfold maxLen; omega
      case c4 => omega
      intro v4 w4 hn4 hg4 _
      have hl4 : w4.ownsRow w.heap.size 3 1 (.slice (some ⟨g, 0, none⟩) L.length cap) L.length (ints L) := hl3.kept hg4 (.inr (by simp [Value.ownBlock]))
      have hr4 := Reads.of_own hl4
      have hz5 : w3.heap.size ≤ w4.heap.size := hg4.size
      have hA3 := HA3.out
      by_cases hcj : cap = j + 1
      all_goals
        first | subst hcj | skip
        go_wp2_with (at_builtin; go_must (refine wpList_append_any _ rfl (.tmp 47) (.tmp 51) _ rfl w3.heap.size 3 i0 _ 1 8 Try.underlying34 hi hz0 hz1 hz2 rfl (by omega) v4 j (ints (L.take j)) rfl hn4 w4.heap.size _ _ _ (ints (L.drop (j + 1))) rfl ?cr (ints_oneCell _ _) ?c3 ?c4 hz5 ?_))
        case cr => first | exact reads_drop hr4 (.inl ⟨rfl, Nat.le_refl _⟩) | exact ⟨by simp [ints]; omega, fun h => absurd h (by omega)⟩
        case c3 => unfold maxLen; omega
        case c4 => omega
        intro v5 w5 hn5 hg5 _
        have R5 := ref_end (S := S') HW3.out HO3.out hg4 hn4 hg5 hn5 (by omega) hbj
        clear hn5 hg5
        go_wp2
        go_roundw
        case rel =>
          refine ⟨k + 1, by omega, by go_num, ?_, ?_⟩
          · rw [hs2.out]
          · rw [hs2.out]; exact R5
        case measure => simp [intOf]; omega
    · obtain rfl : k = Dp.want zs many := by omega
      have hfin : wr.ownsRow w.heap.size 3 1 u9 (Dp.want zs many) (ints (Dp.pick nx vl s zs many).2) := by
        have := R.out
        rw [hpk.2.1] at this
        exact this
      have hbel := R.below
      have hS : (Dp.pk nx vl (Dp.want zs many) s zs).s = (Dp.pick nx vl s zs many).1 := rfl
      have HF := Lib.hid hfin
      have HS := Lib.hid hS
      clear hfin hS
      by_cases hm : (Dp.want zs many : Int) < many
      · have hL0 : (Dp.pk nx vl (Dp.want zs many) s zs).left.length = 0 := by unfold Dp.want at hm ⊢; have := HL.out; unfold Dp.want at hpk; omega
        have hlv : u8 = .slice none 0 0 ∨ ∃ g cap, u8 = .slice (some ⟨g, 0, none⟩) 0 cap := by
          rcases R.left.2 with ⟨h', _⟩ | ⟨g, cap, cur, hv, _⟩
          · exact .inl h'
          · rw [hL0] at hv; exact .inr ⟨g, cap, hv⟩
        clear R hpk hL0 R1
        rcases hlv with rfl | ⟨g, cap, rfl⟩
        all_goals
          go_wp2
          go_ret2
          exact ⟨_, by rw [HS.out]; rfl, HF.out, hbel⟩
      · have hm' : many ≤ (Dp.want zs many : Int) := by omega
        clear R hpk R1
        go_wp2
        go_ret2
        exact ⟨_, by rw [HS.out]; rfl, HF.out, hbel⟩
end Go.Proofs.Ytpcppphdbalogaa
