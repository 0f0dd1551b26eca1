/-
  Gossip: the reference's Flood.
-/
import Derived.Test.YtpcppphdbalogaaHd
import Derived.Test.YtpcppphdbalogaaBld
namespace Go.Proofs.Ytpcppphdbalogaa
open Go.RowKit Go.Sort Go.Maps

theorem Try.info36 : (Try.prog.info? 36).map (fun i => (i.zero, i.size, i.bytes)) = some (some (hv (List.replicate 32 0)), 32, 32) := by kernel_rfl
theorem info_parts2 {P : Program} {t : TypeId} {z : Value} {s b : Nat} (h : (P.info? t).map (fun i => (i.zero, i.size, i.bytes)) = some (some z, s, b)) : ∃ i, P.info? t = some i ∧ i.zero = some z ∧ i.size = s ∧ i.bytes = b := by
  cases hq : P.info? t with
  | none => simp [hq] at h
  | some i => simp [hq] at h; exact ⟨i, rfl, h.1, h.2.1, h.2.2⟩

/-- what was told, when zs is told too. -/
def tell (L : List (List Int)) (zs : List Int) : List (List Int) := if zs ∈ L then L else L ++ [zs]
def tellF (m : Nat) (me f : Int) (L : List (List Int)) (zs l : List Int) : List Int := if zs ∈ L then [] else oth m me (fun k => k != f) l

theorem tcells_one (zs : List Int) : tcells [zs] = zs.map (Value.int .u8) := by simp [tcells]
theorem tcells_append (L : List (List Int)) (zs : List Int) : tcells (L ++ [zs]) = tcells L ++ zs.map (Value.int .u8) := by simp [tcells]
theorem tcells_oneCell (L : List (List Int)) : ∀ u ∈ tcells L, u.oneCell' = true := fun u hu => by
  simp only [tcells, List.mem_flatMap, List.mem_map] at hu
  obtain ⟨_, _, _, _, rfl⟩ := hu
  rfl

theorem wpList_load36 {ops : Array Oper} {rest : List Oper} {op : Oper} {a : Act} {w : World} {Q : Exit → Act → World → Prop} (x : Operand) (b o : Nat) (cs : Array Value) (hgd : op.guard = none) (ho : op.op = .load 36 x)
    (hx : a.eval x = .pointer (some ⟨b, o, none⟩)) (hs : cs.size = 32) (hc : w.rangeAt b o cs.toList) (h : wpList Try.prog ops Q rest (a.put op.dst (.agg cs)) w) : wpList Try.prog ops Q (op :: rest) a w :=
  wpList_load_mid hgd 36 x ho b o hx cs.toList _ hc Try.underlying36 rfl (by rw [size36]; simp [hs]) (by simpa using h)
theorem own_slice36 {w : World} {base n : Nat} {v : Value} {xs : List Value} (h : w.ownsRow base 36 32 v n xs) : ∃ A c, v = .slice A n c := by
  rcases h.2 with ⟨rfl, rfl⟩ | ⟨g, cap, cur, hv, _⟩
  · exact ⟨_, _, rfl⟩
  · exact ⟨_, _, hv⟩
theorem own_below36 {w w' : World} {base n : Nat} {v : Value} {xs : List Value} (h : w.ownsRow base 36 32 v n xs) (hB : Below w.heap.size w w') : w'.ownsRow base 36 32 v n xs :=
  h.kept (grown_below hB none) (by cases hv : v.ownBlock with
    | none => exact .inl rfl
    | some k => exact .inr (fun e => by cases e))
theorem row_ne36 {w : World} {base n b : Nat} {v : Value} {xs : List Value} (h : w.ownsRow base 36 32 v n xs) (hb : b < base) : v.ownBlock = none ∨ v.ownBlock ≠ some b := by
  cases hv : v.ownBlock with
  | none => exact .inl rfl
  | some k => exact .inr (fun e => by injection e with e; have := (h.lt k hv).1; omega)
theorem reads32 (w : World) (cs : Array Value) (h : cs.size = 32) : Reads (w.alloc (.cells cs 36)) (w.heap.size + 1) 32 (some ⟨w.heap.size, 0, none⟩) 1 cs.toList :=
  ⟨by simp [h], fun _ => ⟨_, rfl, Nat.lt_succ_self _, fun j v hv => by
    rw [Addr.add_lit, Nat.zero_add, (Blk.new w 36 cs).cell j]
    simpa using hv⟩⟩
theorem below_alloc_all {w w' : World} {a : World} (h : Below w.heap.size w w') (o : Obj) (e : a = w'.alloc o) : Below w.heap.size w a := by rw [e]; exact h.alloc h.size o
theorem own_base36 {w : World} {base base' n : Nat} {v : Value} {xs : List Value} (h : w.ownsRow base 36 32 v n xs) (hb : base' ≤ base) : w.ownsRow base' 36 32 v n xs := by
  refine ⟨h.1, ?_⟩
  rcases h.2 with h' | ⟨g, cap, cur, hv, hg, r⟩
  · exact .inl h'
  · exact .inr ⟨g, cap, cur, hv, by omega, r⟩
theorem own_far36 {w : World} {base n : Nat} {v : Value} {xs : List Value} (h : w.ownsRow base 36 32 v n xs) {p : Addr} (hp : p.block < base) (u : Value) : (w.setCell p u).ownsRow base 36 32 v n xs :=
  h.kept (row := some p.block) ⟨rfl, rfl, rfl, by simp, fun k _ hk => Below.heap_setCell w p u k (fun e => hk (by rw [e]))⟩ (row_ne36 h hp)
theorem flood_seen {w w' : World} {m tn tc B : Nat} {me fan s f : Int} {ta : Option Addr} {L : List (List Int)} {zs l : List Int} (h1 : tell L zs = L) (h2 : tellF m me f L zs l = []) (ho : w.ownsRow B 36 32 (.slice ta tn tc) tn (tcells L)) (hB : Below w.heap.size w w') :
    ∃ v ta' tn' tc', Ending.returned (.tuple #[.agg (refCells me (m : Int) fan s (.slice ta tn tc)), .slice none 0 0]) = .returned (.tuple #[.agg (refCells me (m : Int) fan s (.slice ta' tn' tc')), v]) ∧
      w'.ownsRow w.heap.size 3 1 v (tellF m me f L zs l).length (ints (tellF m me f L zs l)) ∧ Below w.heap.size w w' ∧ w'.ownsRow B 36 32 (.slice ta' tn' tc') tn' (tcells (tell L zs)) :=
  ⟨_, ta, tn, tc, rfl, by rw [h2]; exact World.ownsRow_nil _ _ _ _, hB, by rw [h1]; exact own_below36 ho hB⟩
theorem far_cell {w : World} {b g i j : Nat} {u : Value} (h : b ≠ g) : (w.setCell ⟨g, i, none⟩ u).cell? ⟨b, j, none⟩ = w.cell? ⟨b, j, none⟩ := World.cell?_of_block (a := ⟨b, j, none⟩) (Below.heap_setCell w _ u b h)
set_option maxHeartbeats 2000000 in
theorem rflood_any (m n c : Nat) (me fan s f : Int) (ta : Option Addr) (tn tc B : Nat) (L : List (List Int)) (zs : List Int) (a : Option Addr) (l : List Int) (w : World) (hz : IsH zs) (hL : ∀ x ∈ L, IsH x) (hll : L.length = tn)
    (hown : w.ownsRow B 36 32 (.slice ta tn tc) tn (tcells L)) (hBw : B ≤ w.heap.size) (htn : tn ≤ 100) (hil : IsL w a n l) (hn : n ≤ 1000) :
    Calls Try.prog 14 #[.agg (refCells me (m : Int) fan s (.slice ta tn tc)), hv zs, .slice a n c, .int .i64 f] w fun e w' => ∃ v ta' tn' tc', e = .returned (.tuple #[.agg (refCells me (m : Int) fan s (.slice ta' tn' tc')), v]) ∧
      w'.ownsRow w.heap.size 3 1 v (tellF m me f L zs l).length (ints (tellF m me f L zs l)) ∧ Below w.heap.size w w' ∧ w'.ownsRow B 36 32 (.slice ta' tn' tc') tn' (tcells (tell L zs)) := by
  obtain ⟨cs, hcs⟩ : ∃ cs, (zs.map (Value.int .u8)).toArray = cs := ⟨_, rfl⟩
  have hcv : hv zs = .agg cs := by rw [← hcs]; rfl
  obtain ⟨i0, hi, hz0, hz1, hz2⟩ := info_parts2 Try.info36
  obtain ⟨W, hW⟩ : ∃ W, W = ((w.alloc (.cells #[.int .i64 me, .int .i64 (m : Int), .int .i64 fan, .int .u64 s, .slice ta tn tc] 31)).alloc (.cells cs 36)).alloc (.cells #[.int .i64 0, .int .i64 0, .int .i64 0, .int .u64 0, .slice none 0 0] 31) := ⟨_, rfl⟩
  have hB : Below w.heap.size w W := by rw [hW]; exact (((Below.refl _ w).alloc (Nat.le_refl _) _).alloc (by simp) _).alloc (by simp; omega) _
  have hb1 : Blk W w.heap.size 31 (refCells me (m : Int) fan s (.slice ta tn tc)) := by rw [hW]; exact ((Blk.new w 31 _).alloc _).alloc _
  have hb2 : Blk W (w.heap.size + 1) 36 cs := by rw [hW]; simpa using (Blk.new (w.alloc (.cells #[.int .i64 me, .int .i64 (m : Int), .int .i64 fan, .int .u64 s, .slice ta tn tc] 31)) 36 cs).alloc _
  have hb3 : Blk W (w.heap.size + 1 + 1) 31 #[.int .i64 0, .int .i64 0, .int .i64 0, .int .u64 0, .slice none 0 0] := by
    rw [hW]; simpa using Blk.new ((w.alloc (.cells #[.int .i64 me, .int .i64 (m : Int), .int .i64 fan, .int .u64 s, .slice ta tn tc] 31)).alloc (.cells cs 36)) 31 #[.int .i64 0, .int .i64 0, .int .i64 0, .int .u64 0, .slice none 0 0]
  have hws : w.heap.size + 1 + 1 < W.heap.size := hb3.lt
  obtain ⟨hc0, hc1, hc2, hc3, hc4⟩ := ref_cells hb1
  have hownW : W.ownsRow B 36 32 (.slice ta tn tc) tn (tcells L) := own_below36 hown hB
  have HS := Lib.hid (rseen_any me m fan s ta tn tc L zs W hz hL hll (Reads.of_own hownW) (by omega))
  have hcs32 : cs.size = 32 := by rw [← hcs]; simp [hz.1]
  rw [hcv]
  rw [hcv] at HS
  have HOw := Lib.hid hown
  have HB := Lib.hid hB
  have H1 := Lib.hid hb1
  have H2 := Lib.hid hb2
  have H3 := Lib.hid hb3
  have HO := Lib.hid hownW
  have HI0 := Lib.hid hil
  have HZ := Lib.hid hz
  have HX := Lib.hid hcv
  have HCS := Lib.hid hcs
  obtain ⟨bx, hbx⟩ : ∃ bx, bx = w.heap.size := ⟨_, rfl⟩
  rw [← hbx] at hc0 hc1 hc2 hc3 hc4 hws H1 H2 H3
  clear hB hb1 hb2 hb3 hil hown hownW hcv hcs hz
  have hr36 : Hid ((((w.alloc (.cells #[.int .i64 me, .int .i64 (m : Int), .int .i64 fan, .int .u64 s, .slice ta tn tc] 31)).alloc (.cells cs 36)).alloc (.cells #[.int .i64 0, .int .i64 0, .int .i64 0, .int .u64 0, .slice none 0 0] 31)).rangeAt (w.heap.size + 1) 0 cs.toList) := by
    rw [← hW, ← hbx]; exact H2.out.range
  rw [show refCells me (m : Int) fan s (.slice ta tn tc) = #[.int .i64 me, .int .i64 (m : Int), .int .i64 fan, .int .u64 s, .slice ta tn tc] from rfl] at HS ⊢
  have HW := Lib.hid hW
  have HBX := Lib.hid hbx
  clear hW hbx hc0 hc1 hc2 hc3 hc4
  go_enter Try.func14, Try.ntmps14
  go_wp2_with (refine wpList_load36 (.tmp 5) (w.heap.size + 1) 0 cs rfl rfl rfl hcs32 hr36.out ?_)
  rw [← HW.out, ← HBX.out]
  refine HS.out.mono ?_
  rintro e w1 ⟨rfl, hB1⟩
  have K1 := H1.out.below hB1 (by omega)
  have K2 := H2.out.below hB1 (by omega)
  have K3 := H3.out.below hB1 hws
  obtain ⟨k0, k1, k2, k3, k4⟩ := ref_cells K1
  have z0 := K3.cell 0
  have z1 := K3.cell 1
  have z2 := K3.cell 2
  have z3 := K3.cell 3
  have z4 := K3.cell 4
  have f0 := K3.frozen 0
  have f1 := K3.frozen 1
  have f2 := K3.frozen 2
  have f3 := K3.frozen 3
  have f4 := K3.frozen 4
  have HB1 := Lib.hid hB1
  have hw1 := hB1.size
  have HK1 := Lib.hid K1
  have HK2 := Lib.hid K2
  have HK3 := Lib.hid K3
  clear K1 K2 K3 hB1
  by_cases hin : zs ∈ L
  · rw [decide_eq_true hin]
    have HT : Hid (tell L zs = L ∧ tellF m me f L zs l = []) := by
      show _ ∧ _
      unfold tell tellF
      rw [if_pos hin, if_pos hin]
      exact ⟨rfl, rfl⟩
    clear hin
    go_wp2_with fail
    have hbb : w.heap.size ≤ bx + 1 + 1 := by have := HBX.out; omega
    refine bodyPost_ret (v := .tuple #[.agg (refCells me (m : Int) fan s (.slice ta tn tc)), .slice none 0 0]) (by simp [results, Try.results14, go_sem, refCells, z0, z1, z2, z3, z4]) rfl (flood_seen HT.out.1 HT.out.2 HOw.out ?_)
    iterate 5 refine Below.setCell ?_ (by exact hbb) _
    exact HB.out.trans (HB1.out.mono HB.out.size)
  · rw [decide_eq_false hin]
    have HT : Hid (tell L zs = L ++ [zs] ∧ tellF m me f L zs l = oth m me (fun k => k != f) l) := by
      show _ ∧ _
      unfold tell tellF
      rw [if_neg hin, if_neg hin]
      exact ⟨rfl, rfl⟩
    clear hin
    have ho1 := own_below36 HO.out HB1.out
    have hr1 := Reads.of_own ho1
    go_wp2_with (at_builtin; go_must (refine wpList_append_any _ rfl (.tmp 17) (.tmp 19) 29 rfl W.heap.size 36 i0 _ 32 32 Try.underlying29 hi hz0 hz1 hz2 rfl (by omega) (.slice none 0 0) 0 [] rfl (World.ownsRow_nil _ _ _ _) w1.heap.size ta tn tc (tcells L) rfl hr1 (tcells_oneCell _) ?c3 ?c4 ?c5 ?_))
    case c3 => unfold maxLen; omega
    case c4 => omega
    case c5 => omega
    intro v2 w2 ho2 hg2 _
    obtain ⟨A2, c2, rfl⟩ := own_slice36 ho2
    have hB2 : Below W.heap.size W w2 := HB1.out.grown hg2 hw1 (fun k e => by simp [Value.ownBlock] at e)
    have q36 := (H2.out.below hB2 (by omega)).range
    have ho2a := ho2.alloc (.cells cs 36)
    have hone : ∀ u ∈ cs.toList, u.oneCell' = true := by
      rw [← HCS.out]
      intro u hu
      simp only [List.mem_map] at hu
      obtain ⟨_, _, rfl⟩ := hu
      rfl
    have hw2 := hB2.size
    go_wp2_with (first
      | (refine wpList_load36 (.tmp 5) (bx + 1) 0 cs rfl rfl rfl hcs32 q36 ?_)
      | (refine wpList_slice_one 29 36 (.tmp 22) cs i0 _ rfl rfl rfl Try.underlying29 hi hz0 (by rw [hz1, hcs32]) (by rw [hcs32]; rfl) (by omega) (by omega) ?_)
      | (at_builtin; go_must (refine wpList_append_any _ rfl (.tmp 21) (.tmp 23) 29 rfl W.heap.size 36 i0 _ 32 32 Try.underlying29 hi hz0 hz1 hz2 rfl (by omega) (.slice A2 tn c2) tn (tcells L) rfl ho2a (w2.heap.size + 1) (some ⟨w2.heap.size, 0, none⟩) 1 1 cs.toList rfl (reads32 w2 cs hcs32) hone ?d3 ?d4 ?d5 ?_)))
    case d3 => unfold maxLen; omega
    case d4 => omega
    case d5 => simp; omega
    intro v3 w3 ho3 hg3 _
    obtain ⟨A3, c3, rfl⟩ := own_slice36 ho3
    have hB3 : Below W.heap.size W w3 := (hB2.alloc hw2 _).grown hg3 (by simp; omega) (fun k e => (ho2.lt k e).1)
    have J1 := H1.out.below hB3 (by omega)
    have J3 := H3.out.below hB3 hws
    have e4 := J1.cell 4
    have g4 := J1.frozen 4
    have HJ1 := Lib.hid (J1.set_ 4 (.slice A3 (tn + 1) c3))
    have HJ3 := Lib.hid (J3.far (p := ⟨bx, 4, none⟩) (by show _ ≠ bx; omega) (.slice A3 (tn + 1) c3))
    have HB3 := Lib.hid hB3
    have hw3 := hB3.size
    have HO3 := Lib.hid ho3
    clear ho2 hg2 ho2a hone q36 J1 J3 hB3 ho3 hg3 hr1 ho1 k0 k1 k2 k3 k4 z0 z1 z2 z3 z4 f0 f1 f2 f3 f4 hB2
    go_wp2_with fail
    obtain ⟨W4, hW4⟩ : ∃ W4, W4 = w3.setCell ⟨bx, 4, none⟩ (.slice A3 (tn + 1) c3) := ⟨_, rfl⟩
    rw [← hW4]
    have HW4 := Lib.hid hW4
    have L1 : Blk W4 bx 31 (refCells me (m : Int) fan s (.slice A3 (tn + 1) c3)) := by rw [hW4]; exact HJ1.out
    have L3 : Blk W4 (bx + 1 + 1) 31 #[.int .i64 0, .int .i64 0, .int .i64 0, .int .u64 0, .slice none 0 0] := by rw [hW4]; exact HJ3.out
    have hB4 : Below w.heap.size w W4 := by
      rw [hW4]
      refine Below.setCell (HB.out.trans (HB3.out.mono HB.out.size)) ?_ _
      show w.heap.size ≤ bx
      have := HBX.out
      omega
    have HO4 : Hid (W4.ownsRow W.heap.size 36 32 (.slice A3 (tn + 1) c3) (tn + 1) (tcells L ++ cs.toList)) := by
      rw [hW4]
      exact HO3.out.kept (row := some bx) ⟨rfl, rfl, rfl, by simp, fun k _ hk => Below.heap_setCell w3 _ _ k (fun e => hk (by rw [e]))⟩ (row_ne36 HO3.out (by omega))
    have hC : Hid (Calls Try.prog 22 #[.agg (refCells me (m : Int) fan s (.slice A3 (tn + 1) c3)), .slice a n c, .int .i64 f] W4.drew fun e w' => ∃ v, e = .returned v ∧
      w'.ownsRow W4.heap.size 3 1 v (oth m me (fun k => k != f) l).length (ints (oth m me (fun k => k != f) l)) ∧ Below W4.heap.size W4 w') :=
      (rothers_any m n c me fan s f (.slice A3 (tn + 1) c3) a l W4.drew (isl_below HI0.out (below_dr hB4)) hn).mono (fun e w' ⟨v, h1, h2, h3⟩ => ⟨v, h1, h2, ⟨h3.os, h3.tape, h3.output, h3.size, h3.block⟩⟩)
    obtain ⟨k0, k1, k2, k3, k4⟩ := ref_cells L1
    have hl1 := L1.lt
    have hl3 := L3.lt
    have hne : bx ≠ bx + 1 + 1 := by omega
    have HL1 := Lib.hid L1
    have HL3 := Lib.hid L3
    have HB4 := Lib.hid hB4
    clear L1 L3 hB4 hW4 HJ1 HJ3
    go_region_held3 (fun w' => w'.cell? ⟨bx, 0, none⟩ = some (.int .i64 me) ∧ w'.cell? ⟨bx, 1, none⟩ = some (.int .i64 m) ∧ w'.cell? ⟨bx, 2, none⟩ = some (.int .i64 fan) ∧ w'.cell? ⟨bx, 3, none⟩ = some (.int .u64 s) ∧ w'.cell? ⟨bx, 4, none⟩ = some (.slice A3 (tn + 1) c3))
      (first | (simp only [far_cell hne]; exact ⟨q0, q1, q2, q3, q4⟩) | go_keep)
      (first
      | (go_at_call 22; refine hC.out.mono ?_; rintro e w5 ⟨v5, rfl, ho5, hB5⟩; obtain ⟨q0, q1, q2, q3, q4⟩ := ref_cells (HL1.out.below hB5 hl1); have Z := HL3.out.below hB5 hl3; have z0 := Z.cell 0; have z1 := Z.cell 1; have z2 := Z.cell 2; have z3 := Z.cell 3; have z4 := Z.cell 4; have f0 := Z.frozen 0; have f1 := Z.frozen 1; have f2 := Z.frozen 2; have f3 := Z.frozen 3; have f4 := Z.frozen 4; have HO5 := Lib.hid ho5; have HB5 := Lib.hid hB5; clear ho5 hB5 Z))
    all_goals
      go_wp2_with fail
      have hbb : w.heap.size ≤ bx + 1 + 1 := by have := HBX.out; omega
      have hw4 := HB4.out.size
      have hw5 := HB5.out.size
      refine bodyPost_ret (v := .tuple #[.agg (refCells me (m : Int) fan s (.slice A3 (tn + 1) c3)), v5]) (by simp [results, Try.results14, go_sem, refCells, z0, z1, z2, z3, z4]) rfl ⟨v5, A3, tn + 1, c3, rfl, ?_, ?_, ?_⟩
      · rw [HT.out.2]
        refine own_base (base := W4.heap.size) ?_ hw4
        iterate 5 refine own_far ?_ (by exact hl3) _
        exact HO5.out
      · iterate 5 refine Below.setCell ?_ (by exact hbb) _
        exact HB4.out.trans (HB5.out.mono HB4.out.size)
      · have hzc : zs.map (Value.int .u8) = cs.toList := by rw [← HCS.out]
        rw [HT.out.1, tcells_append, hzc]
        refine own_base36 (base := W.heap.size) ?_ (Nat.le_trans hBw HB.out.size)
        iterate 5 refine own_far36 ?_ (by exact hws) _
        exact own_below36 HO4.out HB5.out
end Go.Proofs.Ytpcppphdbalogaa
