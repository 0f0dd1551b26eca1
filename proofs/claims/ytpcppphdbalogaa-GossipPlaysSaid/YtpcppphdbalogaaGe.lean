/-
  Gossip: the auditor as a whole; Round.
-/
import Derived.Test.YtpcppphdbalogaaGd
import Derived.Deep.RegionWith
namespace Go.Proofs.Ytpcppphdbalogaa
open Go.RowKit Go.Sort

/-- one auditor in memory: its block, its dice, its map. -/
structure Gos (w : World) (g d tb n m : Nat) (me fan s : Int) (T : List Int → Bool) : Prop where
  blk : Blk w g 57 (gosCells me (m : Int) fan d tb)
  die : Die w d s
  tld : Tld w tb n T

section
variable {w w' : World} {g d tb n m : Nat} {me fan s : Int} {T : List Int → Bool}
theorem Gos.gd (h : Gos w g d tb n m me fan s T) : g ≠ d := by
  rintro rfl
  have := (h.blk.cell 0).symm.trans h.die.1
  simp [gosCells] at this
theorem Gos.gt (h : Gos w g d tb n m me fan s T) : g ≠ tb := by
  rintro rfl
  obtain ⟨D, ⟨es, c, hb, _⟩, _⟩ := h.tld
  have h1 : w.heap[g]? = _ := h.blk
  rw [hb] at h1
  injection h1 with h1
  cases h1
theorem Gos.dt (h : Gos w g d tb n m me fan s T) : d ≠ tb := by
  rintro rfl
  obtain ⟨D, ⟨es, c, hb, _⟩, _⟩ := h.tld
  have := h.die.1
  simp [World.cell?, hb] at this
theorem Gos.below (h : Gos w g d tb n m me fan s T) {B : Nat} (hB : Below B w w') (hg : g < B) (hd : d < B) (ht : tb < B) : Gos w' g d tb n m me fan s T :=
  ⟨h.blk.below hB hg, die_block h.die (hB.block d hd), h.tld.block (hB.block tb ht)⟩
theorem Gos.all (h : Gos w g d tb n m me fan s T) (hB : Below w.heap.size w w') : Gos w' g d tb n m me fan s T :=
  h.below hB h.blk.lt (die_lt h.die) h.tld.lt
end

theorem isl_below {w w' : World} {a : Option Addr} {n : Nat} {zs : List Int} (h : IsL w a n zs) (hB : Below w.heap.size w w') : IsL w' a n zs :=
  ⟨h.1, h.2.1, (h.2.2.below hB).more hB.size⟩

theorem below_of_drew {B : Nat} {w w' : World} (h : Below B w.drew w') : Below B w w' := ⟨h.os, h.tape, h.output, h.size, h.block⟩
theorem round_mid {w w1 : World} {g d tb N m n : Nat} {me fan s : Int} {T : List Int → Bool} {zs : List Int} {A : Option Addr} {c : Nat} (h : Gos w g d tb N m me fan s T) (hB : Below w.heap.size w w1) (hl : zs.length = n) (hn : n ≤ 1000)
    (ho : w1.ownsRow w.heap.size 3 1 (.slice A zs.length c) zs.length (ints zs)) :
    Calls Try.prog 18 #[.pointer (some ⟨d, 0, none⟩), .slice A zs.length c, .int .i64 fan] w1 fun e w' => ∃ v, e = .returned v ∧
      w'.ownsRow w.heap.size 3 1 v (Dp.want zs fan) (ints (Dp.pick nx vl s zs fan).2) ∧ Gos w' g d tb N m me fan (Dp.pick nx vl s zs fan).1 T ∧ w.grownBy w' (some d) := by
  have h1 := h.all hB
  refine (pick_any d s fan A zs.length c zs w1 h1.die (isl_own ho (by omega))).mono ?_
  rintro e w' ⟨v, rfl, ho', hd', hg⟩
  refine ⟨v, rfl, own_base ho' hB.size, ⟨h1.blk.grown hg (fun e => h1.gd (by injection e)), hd', h1.tld.kept hg (fun e => h1.dt (by injection e with e; exact e.symm))⟩, ?_⟩
  exact grown_tr (grown_below hB (some d)) hg

set_option maxHeartbeats 1000000 in
theorem round_any (g d tb N m n c : Nat) (me fan s : Int) (T : List Int → Bool) (a : Option Addr) (zs : List Int) (w : World) (h : Gos w g d tb N m me fan s T) (hm : m ≤ 64) (hl : IsL w a n zs) (hn : n ≤ 1000) :
    Calls Try.prog 10 #[.pointer (some ⟨g, 0, none⟩), .slice a n c] w fun e w' => ∃ v, e = .returned v ∧
      w'.ownsRow w.heap.size 3 1 v (Dp.want (oth m me (fun _ => true) zs) fan) (ints (Dp.pick nx vl s (oth m me (fun _ => true) zs) fan).2) ∧
      Gos w' g d tb N m me fan (Dp.pick nx vl s (oth m me (fun _ => true) zs) fan).1 T ∧ w.grownBy w' (some d) := by
  obtain ⟨hc0, hc1, hc2, hc3, hc4⟩ := gos_cells h.blk
  have hglt := h.blk.lt
  have HC := Lib.hid (others_all g d tb m n c me fan a zs w.drew h.blk.drew hm (show IsL w.drew a n zs from hl) hn)
  have hlen := oth_length m me (fun _ => true) zs
  have hzl := hl.1
  have H := Lib.hid h
  clear h hl hc0 hc1 hc4
  go_enter Try.func10, Try.ntmps10
  go_wp2_with fail
  go_region_with (first
    | (go_at_call 19; refine HC.out.mono ?_; rintro e w1 ⟨v1, rfl, ho, hB⟩; have k2 := (hB.cell (p := ⟨g, 2, none⟩) hglt).trans hc2; have k3 := (hB.cell (p := ⟨g, 3, none⟩) hglt).trans hc3; obtain ⟨A1, c1, rfl⟩ := own_slice ho; have HP := Lib.hid (round_mid H.out (below_of_drew hB) rfl (by omega) ho); clear ho hB)
    | (go_at_call 18; refine HP.out.mono ?_; rintro e w2 ⟨v2, rfl, ho2, hG2, hg2⟩))
  all_goals
    go_wp2_with fail
    go_ret
    exact ⟨_, rfl, ho2, hG2, hg2⟩
end Go.Proofs.Ytpcppphdbalogaa
