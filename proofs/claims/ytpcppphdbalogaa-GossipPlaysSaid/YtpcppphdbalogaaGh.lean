/-
  Gossip: a new auditor in memory; calls on none; the document's example.
-/
import Derived.Test.YtpcppphdbalogaaGg
namespace Go.Proofs.Ytpcppphdbalogaa
open Go.RowKit Go.Sort

theorem gos_new (w : World) (m : Nat) (me fan s : Int) :
    Gos (((w.alloc (.cells #[.int .u64 s] 65)).alloc (.map #[] 0)).alloc (.cells (gosCells me (m : Int) fan w.heap.size (w.heap.size + 1)) 57)) (w.heap.size + 2) w.heap.size (w.heap.size + 1) 0 m me fan s (fun _ => false) := by
  refine ⟨?_, ?_, ?_⟩
  · simpa using Blk.new ((w.alloc (.cells #[.int .u64 s] 65)).alloc (.map #[] 0)) 57 (gosCells me (m : Int) fan w.heap.size (w.heap.size + 1))
  · exact die_alloc (die_alloc (die_new w s) _) _
  · have := (tld_made (w.alloc (.cells #[.int .u64 s] 65))).kept (World.grownBy_alloc _ (.cells (gosCells me (m : Int) fan w.heap.size (w.heap.size + 1)) 57) none) (by simp)
    simpa using this
theorem below_new (w : World) (a b c : Obj) : Below w.heap.size w (((w.alloc a).alloc b).alloc c) :=
  (((Below.refl _ w).alloc (Nat.le_refl _) _).alloc (by simp) _).alloc (by simp; omega) _

/-- a new auditor, all in one. -/
theorem gnew_all (me fan s : Int) (m : Nat) (w : World) (h : newOk me m fan) :
    Calls Try.prog 8 #[.int .i64 me, .int .i64 (m : Int), .int .i64 fan, .int .u64 s] w fun e w' => ∃ g d tb, e = .returned (.tuple #[.pointer (some ⟨g, 0, none⟩), .int .i64 0]) ∧
      Gos w' g d tb 0 m me fan s (fun _ => false) ∧ w.heap.size ≤ g ∧ w.heap.size ≤ d ∧ w.heap.size ≤ tb ∧ Below w.heap.size w w' := by
  refine (gnew_ok me m fan s w h).mono ?_
  rintro e w' ⟨rfl, rfl⟩
  exact ⟨_, _, _, rfl, gos_new w m me fan s, by omega, by omega, by omega, below_new w _ _ _⟩

theorem round_nil (a : Option Addr) (n c : Nat) (w : World) : Calls Try.prog 10 #[.pointer none, .slice a n c] w fun e w' => e = .returned (.slice none 0 0) ∧ w' = w := by
  go_enter Try.func10, Try.ntmps10
  go_wp2
  go_ret
  exact ⟨rfl, rfl⟩

/-- an array of one byte and noughts. -/
def one (x : Int) : List Int := x :: List.replicate 31 0
theorem one_h {x : Int} (h : (Lit.int .u8 x).wf = true) : IsH (one x) := by
  refine ⟨by simp [one], fun z hz => ?_⟩
  simp only [one, List.mem_cons, List.mem_replicate] at hz
  rcases hz with rfl | ⟨_, rfl⟩
  · exact h
  · decide
theorem one_ne {x y : Int} (h : x ≠ y) : one x ≠ one y := fun e => h (by unfold one at e; injection e)
theorem hv_one (x : Int) : hv (one x) = .agg #[.int .u8 x, .int .u8 0, .int .u8 0, .int .u8 0, .int .u8 0, .int .u8 0, .int .u8 0, .int .u8 0, .int .u8 0, .int .u8 0, .int .u8 0, .int .u8 0, .int .u8 0, .int .u8 0, .int .u8 0, .int .u8 0,
    .int .u8 0, .int .u8 0, .int .u8 0, .int .u8 0, .int .u8 0, .int .u8 0, .int .u8 0, .int .u8 0, .int .u8 0, .int .u8 0, .int .u8 0, .int .u8 0, .int .u8 0, .int .u8 0, .int .u8 0, .int .u8 0] := rfl

theorem isl_lit (w : World) (zs : List Int) (h : zs.length ≤ 100) : IsL (w.alloc (.cells (ints zs).toArray 3)) (some ⟨w.heap.size, 0, none⟩) zs.length zs := by
  have := World.ownsRow_lit (e := 3) (size := 1) w (ints zs).toArray zs.length (Nat.le_refl _) (by unfold maxLen; omega) (by simp [ints])
  exact isl_own (base := w.heap.size) (c := zs.length) (by simpa using this) (by omega)

theorem grown_alloc_tr {w w' : World} {o : Obj} {b : Nat} (h : (w.alloc o).grownBy w' (some b)) : w.grownBy w' (some b) :=
  grown_step (World.grownBy_alloc w o (some b)) h (fun k e => .inl (by injection e with e; exact e.symm))

theorem flood_lit {w : World} {g d tb N m : Nat} {me fan s : Int} {T : List Int → Bool} (h : Gos w g d tb N m me fan s T) (f : Int) (zs l : List Int) (hz : IsH zs) (hm : m ≤ 64) (hl : l.length ≤ 100) (hN : N < 1000) :
    Calls Try.prog 13 #[.pointer (some ⟨g, 0, none⟩), hv zs, .slice (some ⟨w.heap.size, 0, none⟩) l.length l.length, .int .i64 f] (w.alloc (.cells (ints l).toArray 3)) fun e w' => ∃ v, e = .returned v ∧
      w'.ownsRow w.heap.size 3 1 v (flr m me f T zs l).length (ints (flr m me f T zs l)) ∧ Gos w' g d tb (N + 1) m me fan s (put T zs) ∧ w.grownBy w' (some tb) := by
  refine (flood_any g d tb N m l.length l.length me fan s f T zs _ l _ (h.all ((Below.refl _ w).alloc (Nat.le_refl _) _)) hz hm (isl_lit w l hl) (by omega) hN).mono ?_
  rintro e w' ⟨v, rfl, h1, h2, h3⟩
  exact ⟨v, rfl, own_base h1 (by simp), h2, grown_alloc_tr h3⟩
theorem round_lit {w : World} {g d tb N m : Nat} {me fan s : Int} {T : List Int → Bool} (h : Gos w g d tb N m me fan s T) (l : List Int) (hm : m ≤ 64) (hl : l.length ≤ 100) :
    Calls Try.prog 10 #[.pointer (some ⟨g, 0, none⟩), .slice (some ⟨w.heap.size, 0, none⟩) l.length l.length] (w.alloc (.cells (ints l).toArray 3)) fun e w' => ∃ v, e = .returned v ∧
      w'.ownsRow w.heap.size 3 1 v (Dp.want (oth m me (fun _ => true) l) fan) (ints (Dp.pick nx vl s (oth m me (fun _ => true) l) fan).2) ∧
      Gos w' g d tb N m me fan (Dp.pick nx vl s (oth m me (fun _ => true) l) fan).1 T ∧ w.grownBy w' (some d) := by
  refine (round_any g d tb N m l.length l.length me fan s T _ l _ (h.all ((Below.refl _ w).alloc (Nat.le_refl _) _)) hm (isl_lit w l hl) (by omega)).mono ?_
  rintro e w' ⟨v, rfl, h1, h2, h3⟩
  exact ⟨v, rfl, own_base h1 (by simp), h2, grown_alloc_tr h3⟩

theorem aw1 : flr 4 1 3 (fun _ => false) (one 1) [0, 1, 2, 3] = [0, 2] := by decide
theorem aw2 : flr 4 1 3 (put (fun _ => false) (one 1)) (one 1) [0, 2] = [] := by decide
theorem aw3 (s : Int) : ∃ x y : Int, (Dp.pick nx vl s (oth 4 1 (fun _ => true) [0, 1, 2, 3]) 2).2 = [x, y] ∧ x ≠ 1 ∧ y ≠ 1 := by
  have e : oth 4 1 (fun _ => true) [0, 1, 2, 3] = [0, 2, 3] := by decide
  rw [e]
  have h1 := Dp.pick_length nx vl s [0, 2, 3] 2
  have h2 := Dp.pick_mem nx vl s [0, 2, 3] 2
  have hw : Dp.want [0, 2, 3] 2 = 2 := rfl
  rw [hw] at h1
  match hp : (Dp.pick nx vl s [0, 2, 3] 2).2, h1 with
  | [x, y], _ =>
    rw [hp] at h2
    refine ⟨x, y, rfl, ?_, ?_⟩
    · have := h2 x (by simp); simp at this; omega
    · have := h2 y (by simp); simp at this; omega
theorem aw4 : put (put (fun _ => false) (one 1)) (one 1) (one 1) = true := by decide
theorem aw5 : put (put (fun _ => false) (one 1)) (one 1) (one 2) = false := by decide

theorem awake_any (w : World) : Calls Try.prog 7 #[] w fun e w' => e = .returned (.bool true) ∧ Below w.heap.size w w' := by
  go_enter Try.func7, Try.ntmps7
  go_wp2_with fail
  refine (gnew_all 1 2 7 4 w (by unfold newOk; omega)).mono ?_
  rintro e w1 ⟨g, d, tb, rfl, G1, hg, hd, ht, B1⟩
  have HG1 := Lib.hid G1
  clear G1
  go_wp2_with fail
  refine (flood_lit HG1.out 3 (one 1) [0, 1, 2, 3] (one_h (by decide)) (by omega) (by decide) (by omega)).mono ?_
  rintro e w2 ⟨v1, rfl, o1, G2, b2⟩
  rw [aw1] at o1
  have e2 : ([0, 2] : List Int).length = 2 := rfl
  rw [e2] at o1
  obtain ⟨g1, c1, rfl⟩ := own_form o1 (by omega)
  have HG2 := Lib.hid G2
  have B2 := below_of_grown B1 b2 ht
  have H1 := Lib.hid o1
  have hgt := HG1.out.tld.lt
  have hgd := die_lt HG1.out.die
  clear G2 o1 e2 B1 b2
  go_wp2_with fail
  refine (flood_lit HG2.out 3 (one 1) [0, 2] (one_h (by decide)) (by omega) (by decide) (by omega)).mono ?_
  rintro e w3 ⟨v2, rfl, o2, G3, b3⟩
  rw [aw2] at o2
  obtain ⟨A2, c2, rfl⟩ := own_slice o2
  have HG3 := Lib.hid G3
  have B3 := below_of_grown B2 b3 ht
  have H2 := Lib.hid (H1.out.kept b3 (row_ne H1.out hgt))
  clear G3 o2 B2 b3 HG2 H1
  go_wp2_with fail
  refine (round_lit HG3.out [0, 1, 2, 3] (by omega) (by decide)).mono ?_
  rintro e w4 ⟨v3, rfl, o3, G4, b4⟩
  obtain ⟨x, y, hp, hx, hy⟩ := aw3 7
  have ew : Dp.want (oth ((4 : Nat) : Int) 1 (fun _ => true) [0, 1, 2, 3]) 2 = 2 := by decide
  have o3' : w4.ownsRow w3.heap.size 3 1 v3 2 (ints [x, y]) := by
    have hp' : (Dp.pick nx vl 7 (oth ((4 : Nat) : Int) 1 (fun _ => true) [0, 1, 2, 3]) 2).2 = [x, y] := hp
    rw [← hp']
    rw [ew] at o3
    exact o3
  clear o3 ew hp
  obtain ⟨g3, c3, rfl⟩ := own_form o3' (by omega)
  have h4 : w3.heap.size ≤ w4.heap.size := b4.size
  have B4 := Lib.hid (below_of_grown B3 b4 hd)
  have H4 := H2.out.kept b4 (row_ne H2.out hgd)
  have k0 : w4.cell? ⟨g1, 0, none⟩ = some (.int .i64 0) := own_cell H4 (by omega)
  have k1 : w4.cell? ⟨g1, 1, none⟩ = some (.int .i64 2) := own_cell H4 (k := 1) (by omega)
  have m0 : w4.cell? ⟨g3, 0, none⟩ = some (.int .i64 x) := own_cell o3' (by omega)
  have m1 : w4.cell? ⟨g3, 1, none⟩ = some (.int .i64 y) := own_cell o3' (k := 1) (by omega)
  have hg3 := (o3'.lt g3 rfl).2
  have S1 := Lib.hid (seen_any g d tb 2 4 1 2 _ _ (one 1) w4 G4 (one_h (by decide)))
  have S2 : Hid (∀ w5, Below w4.heap.size w4 w5 → Calls Try.prog 15 #[.pointer (some ⟨g, 0, none⟩), hv (one 2)] w5 fun e w' => e = .returned (.bool (put (put (fun _ => false) (one 1)) (one 1) (one 2))) ∧ Below w5.heap.size w5 w') :=
    fun w5 hB => seen_any g d tb 2 4 1 2 _ _ (one 2) w5 (G4.all hB) (one_h (by decide))
  rw [aw4] at S1
  rw [aw5] at S2
  clear G4 o3' H4 H2 HG3 HG1 B3 b4
  go_wp2_with fail
  refine S1.out.mono ?_
  rintro e w5 ⟨rfl, B5⟩
  have HB5 := Lib.hid B5
  go_wp2_with fail
  refine (S2.out w5 B5).mono ?_
  rintro e w6 ⟨rfl, B6⟩
  have B56 := B5.trans (B6.mono B5.size)
  have n0 := (B56.cell (p := ⟨g3, 0, none⟩) hg3).trans m0
  have n1 := (B56.cell (p := ⟨g3, 1, none⟩) hg3).trans m1
  have HB := Lib.hid (B4.out.trans (B56.mono B4.out.size))
  have ex : (x != 1) = true := by simp [hx]
  have ey : (y != 1) = true := by simp [hy]
  clear B5 B6 B56 k0 k1 m0 m1 hx hy
  go_wp2_with fail
  go_ret
  exact ⟨rfl, HB.out⟩
end Go.Proofs.Ytpcppphdbalogaa
