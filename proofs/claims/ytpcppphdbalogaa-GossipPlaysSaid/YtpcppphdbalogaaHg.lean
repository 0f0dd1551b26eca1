/-
  Gossip: an auditor beside the reference's.
-/
import Derived.Test.YtpcppphdbalogaaHf
namespace Go.Proofs.Ytpcppphdbalogaa
open Go.RowKit Go.Sort Go.Maps

theorem rnew_bad (me many fan s : Int) (w : World) (h : ¬ newOk me many fan) :
    Calls Try.prog 9 #[.int .i64 me, .int .i64 many, .int .i64 fan, .int .u64 s] w fun e w' => e = .returned (.tuple #[.agg (refCells 0 0 0 0 (.slice none 0 0)), .int .i64 1]) ∧ Below w.heap.size w w' := by
  have key : many < 1 ∨ 64 < many ∨ me < 0 ∨ many ≤ me ∨ fan < 1 ∨ many < fan := by unfold newOk at h; omega
  have hB : Below w.heap.size w w := Below.refl _ _
  by_cases h1 : many < 1
  · go_enter Try.func9, Try.ntmps9
    go_wp2
    exact bodyPost_ret (v := .tuple #[.agg (refCells 0 0 0 0 (.slice none 0 0)), .int .i64 1]) (by simp [results, Try.results9, go_sem, refCells]) rfl ⟨rfl, by
      repeat first
        | exact (Below.refl _ w).alloc (Nat.le_refl _) _
        | refine Below.setCell ?_ (by simp) _⟩
  by_cases h2 : 64 < many
  · go_enter Try.func9, Try.ntmps9
    go_wp2
    exact bodyPost_ret (v := .tuple #[.agg (refCells 0 0 0 0 (.slice none 0 0)), .int .i64 1]) (by simp [results, Try.results9, go_sem, refCells]) rfl ⟨rfl, by
      repeat first
        | exact (Below.refl _ w).alloc (Nat.le_refl _) _
        | refine Below.setCell ?_ (by simp) _⟩
  by_cases h3 : me < 0
  · go_enter Try.func9, Try.ntmps9
    go_wp2
    exact bodyPost_ret (v := .tuple #[.agg (refCells 0 0 0 0 (.slice none 0 0)), .int .i64 1]) (by simp [results, Try.results9, go_sem, refCells]) rfl ⟨rfl, by
      repeat first
        | exact (Below.refl _ w).alloc (Nat.le_refl _) _
        | refine Below.setCell ?_ (by simp) _⟩
  by_cases h4 : many ≤ me
  · go_enter Try.func9, Try.ntmps9
    go_wp2
    exact bodyPost_ret (v := .tuple #[.agg (refCells 0 0 0 0 (.slice none 0 0)), .int .i64 1]) (by simp [results, Try.results9, go_sem, refCells]) rfl ⟨rfl, by
      repeat first
        | exact (Below.refl _ w).alloc (Nat.le_refl _) _
        | refine Below.setCell ?_ (by simp) _⟩
  by_cases h5 : fan < 1
  · go_enter Try.func9, Try.ntmps9
    go_wp2
    exact bodyPost_ret (v := .tuple #[.agg (refCells 0 0 0 0 (.slice none 0 0)), .int .i64 1]) (by simp [results, Try.results9, go_sem, refCells]) rfl ⟨rfl, by
      repeat first
        | exact (Below.refl _ w).alloc (Nat.le_refl _) _
        | refine Below.setCell ?_ (by simp) _⟩
  have h6 : many < fan := by omega
  go_enter Try.func9, Try.ntmps9
  go_wp2
  exact bodyPost_ret (v := .tuple #[.agg (refCells 0 0 0 0 (.slice none 0 0)), .int .i64 1]) (by simp [results, Try.results9, go_sem, refCells]) rfl ⟨rfl, by
    repeat first
      | exact (Below.refl _ w).alloc (Nat.le_refl _) _
      | refine Below.setCell ?_ (by simp) _⟩

/-- an auditor, and the reference's in its box, side by side. -/
structure Play (w wr : World) (B g d tb rb N m : Nat) (me fan s r : Int) (T : List Int → Bool) (L : List (List Int)) (ta : Option Addr) (tn tc : Nat) : Prop where
  gos : Gos wr g d tb N m me fan s T
  ref : Blk wr rb 31 (refCells me (m : Int) fan r (.slice ta tn tc))
  told : wr.ownsRow B 36 32 (.slice ta tn tc) tn (tcells L)
  below : Below w.heap.size w wr
  gB : g < B
  dB : d < B
  tB : tb < B
  rB : rb < B
  d0 : w.heap.size ≤ d
  t0 : w.heap.size ≤ tb
  r0 : w.heap.size ≤ rb
  rg : rb ≠ g
  rd : rb ≠ d
  rt : rb ≠ tb
  bw : B ≤ wr.heap.size

section
variable {w wr w2 : World} {B g d tb rb N m tn tc : Nat} {me fan s r : Int} {T : List Int → Bool} {L : List (List Int)} {ta : Option Addr}
theorem Play.all (h : Play w wr B g d tb rb N m me fan s r T L ta tn tc) (hB : Below wr.heap.size wr w2) : Play w w2 B g d tb rb N m me fan s r T L ta tn tc :=
  { h with gos := h.gos.all hB, ref := h.ref.below hB h.ref.lt, told := own_below36 h.told hB, below := h.below.trans (hB.mono h.below.size), bw := Nat.le_trans h.bw hB.size }
theorem Play.die_ {s' : Int} (h : Play w wr B g d tb rb N m me fan s r T L ta tn tc) (hg : Gos w2 g d tb N m me fan s' T) (hr : wr.grownBy w2 (some d)) : Play w w2 B g d tb rb N m me fan s' r T L ta tn tc :=
  { h with gos := hg, ref := h.ref.grown hr (fun e => h.rd (by injection e)), told := h.told.kept hr (row_ne36 h.told h.dB), below := below_of_grown h.below hr h.d0, bw := Nat.le_trans h.bw hr.size }
theorem Play.tld_ {N' : Nat} {T' : List Int → Bool} (h : Play w wr B g d tb rb N m me fan s r T L ta tn tc) (hg : Gos w2 g d tb N' m me fan s T') (hr : wr.grownBy w2 (some tb)) : Play w w2 B g d tb rb N' m me fan s r T' L ta tn tc :=
  { h with gos := hg, ref := h.ref.grown hr (fun e => h.rt (by injection e)), told := h.told.kept hr (row_ne36 h.told h.tB), below := below_of_grown h.below hr h.t0, bw := Nat.le_trans h.bw hr.size }
/-- the reference's box is set anew. -/
theorem Play.ref_ {r' : Int} {L' : List (List Int)} {ta' : Option Addr} {tn' tc' : Nat} (h : Play w wr B g d tb rb N m me fan s r T L ta tn tc) (hr : wr.grownBy w2 (some rb)) (hb : Blk w2 rb 31 (refCells me (m : Int) fan r' (.slice ta' tn' tc')))
    (ht : wr.ownsRow B 36 32 (.slice ta' tn' tc') tn' (tcells L')) : Play w w2 B g d tb rb N m me fan s r' T L' ta' tn' tc' :=
  { h with
    gos := ⟨h.gos.blk.grown hr (fun e => h.rg (by injection e with e; exact e.symm)), die_block h.gos.die (hr.block d (die_lt h.gos.die) (fun e => h.rd (by injection e with e; exact e.symm))), h.gos.tld.kept hr (fun e => h.rt (by injection e with e; exact e.symm))⟩
    ref := hb, told := ht.kept hr (row_ne36 ht h.rB), below := below_of_grown h.below hr h.r0, bw := Nat.le_trans h.bw hr.size }
end

/-- five cells are set. -/
def put5 (w : World) (b : Nat) (v0 v1 v2 v3 v4 : Value) : World := ((((w.setCell ⟨b, 0, none⟩ v0).setCell ⟨b, 1, none⟩ v1).setCell ⟨b, 2, none⟩ v2).setCell ⟨b, 3, none⟩ v3).setCell ⟨b, 4, none⟩ v4
theorem put5_blk {w : World} {b : Nat} {t : TypeId} {c0 c1 c2 c3 c4 : Value} (h : Blk w b t #[c0, c1, c2, c3, c4]) (v0 v1 v2 v3 v4 : Value) : Blk (put5 w b v0 v1 v2 v3 v4) b t #[v0, v1, v2, v3, v4] := by
  have := ((((h.set_ 0 v0).set_ 1 v1).set_ 2 v2).set_ 3 v3).set_ 4 v4
  exact this
theorem grown_at (w : World) (b i : Nat) (v : Value) : w.grownBy (w.setCell ⟨b, i, none⟩ v) (some b) :=
  ⟨rfl, rfl, rfl, by simp, fun k _ hk => Below.heap_setCell w _ v k (fun e => hk (by rw [e]))⟩
theorem put5_grown (w : World) (b : Nat) (v0 v1 v2 v3 v4 : Value) : w.grownBy (put5 w b v0 v1 v2 v3 v4) (some b) :=
  grown_tr (grown_tr (grown_tr (grown_tr (grown_at w b 0 v0) (grown_at _ b 1 v1)) (grown_at _ b 2 v2)) (grown_at _ b 3 v3)) (grown_at _ b 4 v4)
/-- a new box of five is laid and set, and then the old one. -/
theorem put5_two {w : World} {rb : Nat} {c0 c1 c2 c3 c4 z0 z1 z2 z3 z4 v0 v1 v2 v3 v4 : Value} (h : Blk w rb 31 #[c0, c1, c2, c3, c4]) :
    Blk (put5 (put5 (w.alloc (.cells #[z0, z1, z2, z3, z4] 31)) w.heap.size v0 v1 v2 v3 v4) rb v0 v1 v2 v3 v4) rb 31 #[v0, v1, v2, v3, v4] ∧
    w.grownBy (put5 (put5 (w.alloc (.cells #[z0, z1, z2, z3, z4] 31)) w.heap.size v0 v1 v2 v3 v4) rb v0 v1 v2 v3 v4) (some rb) := by
  have g1 := put5_grown (w.alloc (.cells #[z0, z1, z2, z3, z4] 31)) w.heap.size v0 v1 v2 v3 v4
  have hlt := h.lt
  have h1 := (h.alloc (.cells #[z0, z1, z2, z3, z4] 31)).grown g1 (fun e => by injection e with e; omega)
  have B1 : Below w.heap.size w (put5 (w.alloc (.cells #[z0, z1, z2, z3, z4] 31)) w.heap.size v0 v1 v2 v3 v4) := below_of_grown ((Below.refl _ w).alloc (Nat.le_refl _) _) g1 (Nat.le_refl _)
  exact ⟨put5_blk h1 _ _ _ _ _, grown_tr (grown_below B1 (some rb)) (put5_grown _ _ _ _ _ _ _)⟩
end Go.Proofs.Ytpcppphdbalogaa
