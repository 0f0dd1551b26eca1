/-
  Gossip: the reference's Round.
-/
import Derived.Test.YtpcppphdbalogaaHc
import Derived.Deep.RegionHeld3
namespace Go.Proofs.Ytpcppphdbalogaa
open Go.RowKit Go.Sort Go.Maps

theorem oth_m1 (m : Nat) (me : Int) (zs : List Int) : oth m me (fun k => k != -1) zs = oth m me (fun _ => true) zs := by
  have hs : ∀ P k, othStep m me (fun k => k != -1) P k = othStep m me (fun _ => true) P k := fun P k => by
    have : canTell m me (fun k => k != -1) P k = canTell m me (fun _ => true) P k := by
      unfold canTell
      by_cases h : 0 ≤ k
      · have : (k != -1) = true := by simp; omega
        simp [this]
      · simp [h]
    unfold othStep
    rw [this]
  unfold oth
  congr 1
  funext P k
  exact hs P k

theorem rpick_of {w0 w1 : World} (s many : Int) (v : Value) (zs : List Int) (hB : Below w0.heap.size w0 w1) (ho : w1.ownsRow w0.heap.size 3 1 v zs.length (ints zs)) (hn : zs.length ≤ 1000) :
    Calls Try.prog 21 #[.int .u64 s, v, .int .i64 many] w1 fun e w' => ∃ v', e = .returned (.tuple #[.int .u64 (Dp.pick nx vl s zs many).1, v']) ∧
      w'.ownsRow w0.heap.size 3 1 v' (Dp.want zs many) (ints (Dp.pick nx vl s zs many).2) ∧ Below w0.heap.size w0 w' := by
  obtain ⟨A, c, rfl⟩ := own_slice ho
  refine (rpick_any s many A zs.length c zs w1 (isl_own ho (by omega))).mono ?_
  rintro e w' ⟨v', rfl, h1, h2⟩
  exact ⟨v', rfl, own_base h1 hB.size, hB.trans (h2.mono hB.size)⟩

theorem own_far {w : World} {base n : Nat} {v : Value} {xs : List Value} (h : w.ownsRow base 3 1 v n xs) {p : Addr} (hp : p.block < base) (u : Value) : (w.setCell p u).ownsRow base 3 1 v n xs :=
  h.kept (row := some p.block) ⟨rfl, rfl, rfl, by simp, fun k _ hk => Below.heap_setCell w p u k (fun e => hk (by rw [e]))⟩ (row_ne h hp)
theorem below_dr {B : Nat} {a w : World} (h : Below B a w) : Below B a w.drew := ⟨h.os, h.tape, h.output, h.size, h.block⟩

set_option maxHeartbeats 2000000 in
theorem rround_any (m n c : Nat) (me fan s : Int) (ta : Option Addr) (tn tc : Nat) (a : Option Addr) (zs : List Int) (w : World) (hl : IsL w a n zs) (hn : n ≤ 1000) :
    Calls Try.prog 11 #[.agg (refCells me (m : Int) fan s (.slice ta tn tc)), .slice a n c] w fun e w' => ∃ v, e = .returned (.tuple #[.agg (refCells me (m : Int) fan (Dp.pick nx vl s (oth m me (fun _ => true) zs) fan).1 (.slice ta tn tc)), v]) ∧
      w'.ownsRow w.heap.size 3 1 v (Dp.want (oth m me (fun _ => true) zs) fan) (ints (Dp.pick nx vl s (oth m me (fun _ => true) zs) fan).2) ∧ Below w.heap.size w w' := by
  have hzl := hl.1
  obtain ⟨P, hP⟩ : ∃ P, oth m me (fun _ => true) zs = P := ⟨_, rfl⟩
  have hPl : P.length ≤ 1000 := by rw [← hP]; have := oth_length m me (fun _ => true) zs; omega
  rw [hP]
  obtain ⟨W, hW⟩ : ∃ W, W = (w.alloc (.cells (refCells me (m : Int) fan s (.slice ta tn tc)) 31)).alloc (.cells #[.int .i64 0, .int .i64 0, .int .i64 0, .int .u64 0, .slice none 0 0] 31) := ⟨_, rfl⟩
  have hB : Below w.heap.size w W := by rw [hW]; exact ((Below.refl _ w).alloc (Nat.le_refl _) _).alloc (by simp) _
  have hb1 : Blk W w.heap.size 31 (refCells me (m : Int) fan s (.slice ta tn tc)) := by rw [hW]; exact (Blk.new w 31 _).alloc _
  have hb2 : Blk W (w.heap.size + 1) 31 #[.int .i64 0, .int .i64 0, .int .i64 0, .int .u64 0, .slice none 0 0] := by rw [hW]; simpa using Blk.new (w.alloc (.cells (refCells me (m : Int) fan s (.slice ta tn tc)) 31)) 31 _
  have hws : w.heap.size + 1 < W.heap.size := hb2.lt
  obtain ⟨hc0, hc1, hc2, hc3, hc4⟩ := ref_cells hb1
  have HO : Hid (∀ W', Below W.heap.size W W' → Calls Try.prog 22 #[.agg (refCells me (m : Int) fan s (.slice ta tn tc)), .slice a n c, .int .i64 (-1)] W' fun e w' => ∃ v, e = .returned v ∧ w'.ownsRow W.heap.size 3 1 v P.length (ints P) ∧ Below W.heap.size W w') := by
    intro W' hW'
    refine (rothers_any m n c me fan s (-1) (.slice ta tn tc) a zs W' (isl_below (isl_below hl hB) hW') hn).mono ?_
    rintro e w' ⟨v, rfl, h1, h2⟩
    rw [oth_m1, hP] at h1
    exact ⟨v, rfl, own_base h1 hW'.size, hW'.trans (h2.mono hW'.size)⟩
  have HB := Lib.hid hB
  have H1 := Lib.hid hb1
  have H2 := Lib.hid hb2
  obtain ⟨R, hR⟩ : ∃ R, Dp.pick nx vl s P fan = R := ⟨_, rfl⟩
  have HR := Lib.hid hR
  rw [hR]
  obtain ⟨bx, hbx⟩ : ∃ bx, bx = w.heap.size := ⟨_, rfl⟩
  rw [← hbx] at hc0 hc1 hc2 hc3 hc4 hws H1 H2
  clear hB hb1 hb2 hP hR hl hzl
  have hwl : bx < W.heap.size := by omega
  have hws : bx + 1 < W.heap.size := hws
  go_enter Try.func11, Try.ntmps11
  go_wp2_with fail
  rw [← hW, ← hbx]
  have HBX := Lib.hid hbx
  clear hW hbx
  have hBW : Below W.heap.size W W := Below.refl _ _
  go_region_held3 (fun w' => w'.cell? ⟨bx, 0, none⟩ = some (.int .i64 me) ∧ w'.cell? ⟨bx, 1, none⟩ = some (.int .i64 m) ∧ w'.cell? ⟨bx, 2, none⟩ = some (.int .i64 fan) ∧ w'.cell? ⟨bx, 3, none⟩ = some (.int .u64 s) ∧ w'.cell? ⟨bx, 4, none⟩ = some (.slice ta tn tc) ∧ Below W.heap.size W w')
    (first | exact ⟨hc0, hc1, hc2, hc3, hc4, below_dr hBW⟩ | exact ⟨(hB1.cell (p := ⟨bx, 0, none⟩) hwl).trans hc0, (hB1.cell (p := ⟨bx, 1, none⟩) hwl).trans hc1, (hB1.cell (p := ⟨bx, 2, none⟩) hwl).trans hc2, (hB1.cell (p := ⟨bx, 3, none⟩) hwl).trans hc3, (hB1.cell (p := ⟨bx, 4, none⟩) hwl).trans hc4, hB1⟩)
    (first
    | (go_at_call 22; refine (HO.out _ (below_dr hBW)).mono ?_; rintro e w1 ⟨v1, rfl, ho, hB1⟩; have HP := Lib.hid (rpick_of s fan v1 P hB1 ho hPl); clear ho)
    | (go_at_call 21; refine HP.out.mono ?_; rw [HR.out]; rintro e w2 ⟨v2, rfl, ho2, hB1⟩; have HO2 := Lib.hid ho2; clear ho2))
  all_goals
    have K1 := H1.out.below hB1 hwl
    have K2 := H2.out.below hB1 hws
    obtain ⟨k0, k1, k2, k3, k4⟩ := ref_cells K1
    have kf := K1.frozen 3
    have z0 := K2.cell 0
    have z1 := K2.cell 1
    have z2 := K2.cell 2
    have z3 := K2.cell 3
    have z4 := K2.cell 4
    have f0 := K2.frozen 0
    have f1 := K2.frozen 1
    have f2 := K2.frozen 2
    have f3 := K2.frozen 3
    have f4 := K2.frozen 4
    have HB1 := Lib.hid hB1
    clear K1 K2 hB1 hc0 hc1 hc2 hc3 hc4 hBW
    go_wp2_with fail
    refine bodyPost_ret (v := .tuple #[.agg (refCells me (m : Int) fan R.1 (.slice ta tn tc)), v2]) (by simp [results, Try.results11, go_sem, refCells, z0, z1, z2, z3, z4]) rfl ⟨v2, rfl, ?_, ?_⟩
    · refine own_base (base := W.heap.size) ?_ HB.out.size
      iterate 6 refine own_far ?_ (by first | exact hwl | exact hws) _
      exact HO2.out
    · have hbb : w.heap.size ≤ bx := by have := HBX.out; omega
      iterate 6 refine Below.setCell ?_ (by first | exact hbb | exact Nat.le_succ_of_le hbb) _
      exact HB.out.trans (HB1.out.mono HB.out.size)
end Go.Proofs.Ytpcppphdbalogaa
