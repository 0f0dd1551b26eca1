/-
  Dice: Below at a length, Clone of whatever row came in, and Pick: it picks as the plain 'pick' does.
-/
import Derived.Test.YtpcppphdbalogaaDb
import Derived.Test.YtpcppphdbalogaaPure
import Derived.Test.YtpcppphdbalogaaWords
import Derived.Lib.Hide
import Derived.Deep.DeepMust
namespace Go.Proofs.Ytpcppphdbalogaa
open Go.RowKit Go.Sort

/-- the dice's cell. -/
def Die (w : World) (b : Nat) (s : Int) : Prop := w.cell? ⟨b, 0, none⟩ = some (.int .u64 s) ∧ w.frozen? ⟨b, 0, none⟩ = false

theorem grown_set (w : World) (b : Nat) (v : Value) : w.grownBy (w.setCell ⟨b, 0, none⟩ v) (some b) :=
  ⟨rfl, rfl, rfl, by simp, fun k _ hk => Below.heap_setCell w _ v k (fun e => hk (by rw [e]))⟩
theorem die_set {w : World} {b : Nat} {s : Int} (h : Die w b s) (t : Int) : Die (w.setCell ⟨b, 0, none⟩ (.int .u64 t)) b t :=
  ⟨World.cell?_setCell_same _ _ _ h.1, by rw [World.frozen?_setCell]; exact h.2⟩

theorem bel_any (b n : Nat) (s : Int) (w : World) (hm : (n : Int) ≤ 9223372036854775807) (h : Die w b s) :
    Calls Try.prog 25 #[.pointer (some ⟨b, 0, none⟩), .int .i64 n] w fun e w' => e = .returned (.int .i64 ((Dp.bel nx vl s n).2 : Nat)) ∧ Die w' b (Dp.bel nx vl s n).1 ∧ w.grownBy w' (some b) := by
  by_cases hn : n < 2
  · refine (bel_lo n w (by omega) _).mono ?_
    rintro e w' ⟨rfl, rfl⟩
    have e1 : Dp.bel nx vl s n = (s, 0) := by unfold Dp.bel; rw [if_pos hn]
    rw [e1]
    exact ⟨rfl, h, World.grownBy.refl _ _⟩
  · refine (bel_hi b s n w (by omega) hm h.1 h.2).mono ?_
    rintro e w' ⟨rfl, rfl⟩
    have e1 : Dp.bel nx vl s n = (nx s, (vl s % (n : Int)).toNat) := by unfold Dp.bel; rw [if_neg hn]
    rw [e1]
    refine ⟨ret_int ?_, die_set h _, grown_set _ _ _⟩
    have := Int.emod_nonneg (vl s) (b := (n : Int)) (by omega)
    show vl s % (n : Int) = ((vl s % (n : Int)).toNat : Int)
    omega

/-- a row of integers that came in: n numbers. -/
def IsL (w : World) (a : Option Addr) (n : Nat) (zs : List Int) : Prop :=
  zs.length = n ∧ n * 8 ≤ 140737488355328 ∧ Reads w w.heap.size 1 a n (ints zs)

theorem clone_any (a : Option Addr) (n c : Nat) (zs : List Int) (w : World) (h : IsL w a n zs) :
    Calls Try.prog 24 #[.slice a n c] w fun e w' => ∃ v', e = .returned v' ∧ w'.ownsRow w.heap.size 3 1 v' n (ints zs) ∧ Below w.heap.size w w' := by
  obtain ⟨hl, hb, h⟩ := h
  rcases Nat.eq_zero_or_pos n with rfl | hn
  · obtain rfl := List.eq_nil_of_length_eq_zero hl
    cases a with
    | none =>
      refine (Try.slices_Clone_int_nil 0 c w).mono ?_
      rintro e w' ⟨rfl, rfl⟩
      exact ⟨_, rfl, World.ownsRow_nil _ _ _ _, Below.refl _ _⟩
    | some x =>
      refine (Try.slices_Clone_int_zero x c w).mono ?_
      rintro e w' ⟨v', rfl, h1, _, h2⟩
      exact ⟨_, rfl, h1, h2⟩
  · obtain ⟨⟨b, off, spot⟩, rfl, _, hc⟩ := h.2 hn
    have hc' : ∀ j, j < zs.length → w.cell? ((⟨b, off, spot⟩ : Addr).add j) = some (.int .i64 (zs.getD j 0)) := fun j hj => hc j _ (by simp [ints, hj])
    have h0 := hc' 0 (by omega)
    have hsp : spot = none := by simpa [Addr.add] using World.cell?_spot h0
    subst hsp
    refine (Try.slices_Clone_int b off n c zs w (by omega) hb (fun j hj => by
      have := hc' j hj
      rwa [Addr.add_lit] at this)).mono ?_
    rintro e w' ⟨v', rfl, h1, _, h2⟩
    rw [List.take_of_length_le (by omega)] at h1
    exact ⟨_, rfl, h1, h2⟩

theorem Try.info3 : (Try.prog.info? 3).map (fun i => (i.zero, i.size, i.bytes)) = some (some (.int .i64 0), 1, 8) := by kernel_rfl

theorem grown_step {w a a' : World} {b : Nat} {row : Option Nat} (h : w.grownBy a (some b)) (g : a.grownBy a' row) (hr : ∀ k, row = some k → k = b ∨ w.heap.size ≤ k) : w.grownBy a' (some b) :=
  ⟨g.os.trans h.os, g.tape.trans h.tape, g.output.trans h.output, Nat.le_trans h.size g.size, fun k hk hne =>
    (g.block k (Nat.lt_of_lt_of_le hk h.size) (fun e => by
      rcases hr k e.symm with rfl | h1
      · exact hne rfl
      · omega)).trans (h.block k hk hne)⟩
theorem grown_below {w a : World} (h : Below w.heap.size w a) (row : Option Nat) : w.grownBy a row := ⟨h.os, h.tape, h.output, h.size, fun i hi _ => h.block i hi⟩
theorem die_lt {w : World} {b : Nat} {s : Int} (h : Die w b s) : b < w.heap.size := World.block_lt_of_cell? w _ h.1
theorem die_block {w w' : World} {b : Nat} {s : Int} (h : Die w b s) (e : w'.heap[b]? = w.heap[b]?) : Die w' b s :=
  ⟨(World.cell?_of_block (a := ⟨b, 0, none⟩) e).trans h.1, (World.frozen?_of_block (a := ⟨b, 0, none⟩) e).trans h.2⟩
theorem own_base {w : World} {base base' n : Nat} {v : Value} {xs : List Value} (h : w.ownsRow base 3 1 v n xs) (hb : base' ≤ base) : w.ownsRow base' 3 1 v n xs := by
  refine ⟨h.1, ?_⟩
  rcases h.2 with h' | ⟨g, cap, cur, hv, hg, r⟩
  · exact .inl h'
  · exact .inr ⟨g, cap, cur, hv, by omega, r⟩

/-- what holds ahead of each round of Pick: 'm' the number of blocks behind the clone. -/
structure PickRel (w wr : World) (b m : Nat) (lv ov : Value) (t : Dp.St) : Prop where
  left : wr.ownsRow w.heap.size 3 1 lv t.left.length (ints t.left)
  low : ∀ k, lv.ownBlock = some k → k < m
  out : wr.ownsRow m 3 1 ov t.out.length (ints t.out)
  die : Die wr b t.s
  grown : w.grownBy wr (some b)
  m1 : w.heap.size ≤ m
  m2 : m ≤ wr.heap.size

theorem own_form {w : World} {base n : Nat} {v : Value} {xs : List Value} (h : w.ownsRow base 3 1 v n xs) (hn : 0 < n) : ∃ g cap, v = .slice (some ⟨g, 0, none⟩) n cap := by
  rcases h.2 with ⟨_, h'⟩ | ⟨g, cap, cur, hv, _⟩
  · omega
  · exact ⟨g, cap, hv⟩

theorem row_ne {w : World} {base n b : Nat} {v : Value} {xs : List Value} (h : w.ownsRow base 3 1 v n xs) (hb : b < base) : v.ownBlock = none ∨ v.ownBlock ≠ some b := by
  cases hv : v.ownBlock with
  | none => exact .inl rfl
  | some k => exact .inr (fun e => by injection e with e; have := (h.lt k hv).1; omega)
theorem grown_tr {w a a' : World} {b : Nat} (h : w.grownBy a (some b)) (g : a.grownBy a' (some b)) : w.grownBy a' (some b) :=
  grown_step h g (fun k e => .inl (by injection e with e; exact e.symm))
theorem pick_mid {w w2 w3 : World} {b g cap m : Nat} {S x : Int} {L O : List Int} {ov v3 : Value} {o : Obj}
    (hl : w2.ownsRow w.heap.size 3 1 (.slice (some ⟨g, 0, none⟩) L.length cap) L.length (ints L)) (hg : g < m) (ho : w2.ownsRow m 3 1 ov O.length (ints O)) (hd : Die w2 b S) (hgr : w.grownBy w2 (some b))
    (hm : m ≤ w2.heap.size) (hgw : w.heap.size ≤ g) (hb : b < w.heap.size) (hgrow : (w2.alloc o).grownBy w3 ov.ownBlock) (hown : w3.ownsRow m 3 1 v3 (O.length + 1) (ints O ++ [.int .i64 x])) :
    w3.ownsRow w.heap.size 3 1 (.slice (some ⟨g, 0, none⟩) L.length cap) L.length (ints L) ∧ w3.ownsRow m 3 1 v3 (O ++ [x]).length (ints (O ++ [x])) ∧ Die w3 b S ∧ w.grownBy w3 (some b) ∧ m ≤ w3.heap.size := by
  have hlow : ∀ k, k < m → some k ≠ ov.ownBlock := fun k hk e => by have := (ho.lt k e.symm).1; omega
  refine ⟨(hl.alloc o).kept hgrow (.inr (hlow g hg)), by simpa [ints] using hown, ?_, ?_, ?_⟩
  · exact die_block hd ((hgrow.block b (by simp; omega) (hlow b (by omega))).trans (Below.heap_alloc w2 o b (by omega)))
  · exact grown_step (grown_step hgr (World.grownBy_alloc w2 o none) (fun k e => by cases e)) hgrow (fun k e => .inr (by have := (ho.lt k e).1; omega))
  · have := hgrow.size; simp at this; omega

theorem pick_end {w w3 w4 : World} {b g cap m j : Nat} {S x : Int} {L O : List Int} {v3 : Value} (hm1 : w.heap.size ≤ m)
    (hl : w4.ownsRow w.heap.size 3 1 (.slice (some ⟨g, 0, none⟩) (L.length - 1) cap) (L.length - 1) (ints (L.take j ++ L.drop (j + 1)))) (hg : g < m) (ho : w3.ownsRow m 3 1 v3 (O ++ [x]).length (ints (O ++ [x]))) (hd : Die w3 b S)
    (hgr : w.grownBy w3 (some b)) (hm : m ≤ w3.heap.size) (hgw : w.heap.size ≤ g) (hb : b < w.heap.size) (hj : j < L.length) (hg4 : w3.grownBy w4 (some g)) :
    PickRel w w4 b m (.slice (some ⟨g, 0, none⟩) (L.length - 1) cap) v3 ⟨S, L.take j ++ L.drop (j + 1), O ++ [x]⟩ := by
  have hlen : (L.take j ++ L.drop (j + 1)).length = L.length - 1 := by simp; omega
  refine ⟨by rw [hlen]; exact hl, fun k e => by simp [Value.ownBlock] at e; omega, ho.kept hg4 (row_ne ho hg), ?_, grown_step hgr hg4 (fun k e => .inr (by injection e; omega)), hm1, Nat.le_trans hm hg4.size⟩
  exact die_block hd (hg4.block b (by omega) (fun e => by injection e with e; omega))

set_option maxHeartbeats 400000 in
theorem pick_any (b : Nat) (s many : Int) (a : Option Addr) (n c : Nat) (zs : List Int) (w : World) (hd : Die w b s) (h : IsL w a n zs) :
    Calls Try.prog 18 #[.pointer (some ⟨b, 0, none⟩), .slice a n c, .int .i64 many] w fun e w' => ∃ v, e = .returned v ∧
      w'.ownsRow w.heap.size 3 1 v (Dp.want zs many) (ints (Dp.pick nx vl s zs many).2) ∧ Die w' b (Dp.pick nx vl s zs many).1 ∧ w.grownBy w' (some b) := by
  have hn : n ≤ 17592186044416 := by have := h.2.1; omega
  have hw : Hid ((Dp.want zs many : Int) = min (max many 0) (n : Int)) := by show _ = _; have := h.1; unfold Dp.want; omega
  have HL := Lib.hid h.1
  have hbl := die_lt hd
  obtain ⟨i0, hi, hz0, hz1, hz2⟩ := info_parts Try.info3
  go_enter Try.func18, Try.ntmps18
  go_wp2_with (go_at_call 24; refine (clone_any a n c zs w h).mono ?_; rintro e w1 ⟨v1, rfl, hl1, hb1⟩)
  have R1 : PickRel w w1 b w1.heap.size v1 (.slice none 0 0) (Dp.pk nx vl 0 s zs) :=
    ⟨by rw [← HL.out] at hl1; exact hl1, fun k hk => (hl1.lt k hk).2, World.ownsRow_nil _ _ _ _, die_block hd (hb1.block b hbl), grown_below hb1 _, hb1.size, Nat.le_refl _⟩
  clear hl1
  go_loopw [7, 8, 17] (fun lv ov cv wr => ∃ k : Nat, k ≤ Dp.want zs many ∧ cv = .int .i64 k ∧ PickRel w wr b w1.heap.size lv ov (Dp.pk nx vl k s zs))
    (fun _ _ cv _ => Dp.want zs many - (intOf cv).toNat)
  case atStart => exact ⟨0, Nat.zero_le _, rfl, R1⟩
  case round =>
    obtain ⟨k, hk, rfl, R⟩ := hrel
    have hwn : Dp.want zs many ≤ n := by have := HL.out; unfold Dp.want; omega
    have hpk := Dp.pk_all nx vl k s zs (by rw [HL.out]; omega)
    rw [HL.out] at hpk
    by_cases hlt : k < Dp.want zs many
    · have h1 : (k : Int) < min (max many 0) (n : Int) := by have := hw.out; omega
      have hstep : Hid (Dp.pk nx vl (k + 1) s zs = Dp.stp nx vl (Dp.pk nx vl k s zs)) := by show _ = _; rfl
      generalize Dp.pk nx vl k s zs = t at R hstep hpk
      obtain ⟨S, L, O⟩ := t
      obtain ⟨hL, hO, _⟩ := hpk
      simp only at hL hO
      have hOk : O.length ≤ k := by omega
      have hL0 : 0 < L.length := by omega
      have hLn : L.length ≤ n := by omega
      have hLf : wr.ownsRow w.heap.size 3 1 _ L.length (ints L) := R.left
      obtain ⟨g, cap, rfl⟩ := own_form hLf hL0
      have hbj := Dp.bel_lt nx vl S L.length hL0
      have HB := Lib.hid (bel_any b L.length S wr (by omega) R.die)
      have hs2 : Hid (Dp.pk nx vl (k + 1) s zs = ⟨(Dp.bel nx vl S L.length).1, L.take (Dp.bel nx vl S L.length).2 ++ L.drop ((Dp.bel nx vl S L.length).2 + 1), O ++ [L.getD (Dp.bel nx vl S L.length).2 0]⟩) := hstep.out
      clear hstep
      generalize Dp.bel nx vl S L.length = q at HB hbj hs2
      obtain ⟨S', j⟩ := q
      simp only at hbj hs2
      clear hL hO
      have hx0 : L[j]? = some (L.getD j 0) := by simp [hbj]
      generalize L.getD j 0 = x at hs2 hx0
      have HX := Lib.hid hx0
      clear hx0
      go_wp2_with fail
      refine HB.out.mono ?_
      rintro e w2 ⟨rfl, hd2, hg2⟩
      have hne : g ≠ b := fun e => by have := (R.left.lt g rfl).1; omega
      have hl2 := hLf.kept hg2 (.inr (by simp [Value.ownBlock]; exact hne))
      have hm2 : w1.heap.size ≤ w2.heap.size := Nat.le_trans R.m2 hg2.size
      have ho2 := R.out.kept hg2 (row_ne R.out (by have := R.m1; omega))
      have hcell : w2.cell? ⟨g, j, none⟩ = some (.int .i64 x) := by
        have := hl2.cellAt j (by simpa using hbj)
        rw [this, ints, List.getElem?_map, HX.out]; rfl
      have hgr2 := grown_tr R.grown hg2
      have hOl : O.length ≤ n := by omega
      go_wp2_with (at_builtin; go_must (refine wpList_append_own _ rfl _ _ 34 rfl w1.heap.size 3 i0 (.int .i64 0) 1 8 Try.underlying34 hi hz0 hz1 hz2 rfl (by decide) _ _ _ rfl (ho2.alloc _) ⟨w2.heap.size, 0, none⟩ 1 1 [.int .i64 x] rfl rfl ?c1 ?c2 ?c3 ?c4 ?c5 ?_))
      case c1 =>
        intro i u hi
        match i, hi with
        | 0, hi => simp at hi; subst hi; simp [Addr.add]
      case c2 => intro u hu; simp at hu; subst hu; rfl
      case c3 => unfold maxLen; omega
      case c4 => omega
      case c5 => simp; omega
      intro v3 w3 hown3 hgrow3 _
      have R3 := pick_mid hl2 (R.low g rfl) ho2 hd2 hgr2 hm2 (R.left.lt g rfl).1 hbl hgrow3 hown3
      obtain ⟨hl3, ho3, hd3, hgr3, hm3⟩ := R3
      clear hown3 hgrow3 hl2 ho2 hcell hd2
      have HD := Lib.hid (del_own g cap j w.heap.size L w3 hl3 hbj)
      go_wp2_with (go_at_call 26; go_must (refine HD.out.mono ?_); rintro e w4 ⟨rfl, hl4, hg4⟩)
      go_roundw
      case rel =>
        refine ⟨k + 1, by omega, by go_num, ?_⟩
        rw [hs2.out]
        exact pick_end R.m1 hl4 (R.low g rfl) ho3 hd3 hgr3 hm3 (R.left.lt g rfl).1 hbl hbj hg4
      case measure => simp [intOf]; omega
    · have h1 : min (max many 0) (n : Int) ≤ (k : Int) := by have := hw.out; omega
      obtain rfl : k = Dp.want zs many := by omega
      go_wp2
      go_ret
      refine ⟨_, rfl, ?_, R.die, R.grown⟩
      have := own_base R.out R.m1
      rw [hpk.2.1] at this
      exact this
end Go.Proofs.Ytpcppphdbalogaa
