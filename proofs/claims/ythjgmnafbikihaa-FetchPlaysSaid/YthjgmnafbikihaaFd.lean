/-
  Fetch: two wants: which is ahead.
-/
import Derived.Test.YthjgmnafbikihaaFc
set_option linter.unusedVariables false
set_option linter.unusedSimpArgs false
namespace Go.Proofs.Ythjgmnafbikihaa
open Go.RowKit

def IsW (x : Wt) : Prop := IsK x.1 ∧ IsK x.2
def wcells (x : Wt) : List Value := kcells x.1 ++ kcells x.2
theorem wcells_length {x : Wt} (h : IsW x) : (wcells x).length = 66 := by simp [wcells, kcells_length h.1, kcells_length h.2]
theorem kcells_ones (k : K) : ∀ v ∈ kcells k, v.oneCell' = true := by
  intro v hv
  simp only [kcells, List.mem_cons, List.mem_map] at hv
  rcases hv with rfl | ⟨_, _, rfl⟩ <;> rfl
theorem wcells_ones (x : Wt) : ∀ v ∈ wcells x, v.oneCell' = true := by
  intro v hv
  rcases List.mem_append.1 hv with h | h
  · exact kcells_ones _ v h
  · exact kcells_ones _ v h
theorem size85 : (Try.prog.info? 85).map (·.size) = some 66 := by kernel_rfl
theorem zinfo85 : (Try.prog.info? 85).map (fun i => (i.zero.map (·.cells.size), i.size)) = some (some 66, 66) := by kernel_rfl
theorem zinfo26 : (Try.prog.info? 26).map (fun i => (i.zero.map (·.cells.size), i.size)) = some (some 33, 33) := by kernel_rfl
theorem zparts {P : Program} {t : TypeId} {n : Nat} (h : (P.info? t).map (fun i => (i.zero.map (·.cells.size), i.size)) = some (some n, n)) : ∃ i z, P.info? t = some i ∧ i.zero = some z ∧ z.cells.size = n ∧ i.size = n := by
  cases hq : P.info? t with
  | none => simp [hq] at h
  | some i =>
    simp [hq] at h
    obtain ⟨⟨z, hz, hc⟩, hs⟩ := h
    exact ⟨i, z, rfl, hz, hc, hs⟩
theorem zero_agg {P : Program} {t : TypeId} {n : Nat} (h : (P.info? t).map (fun i => (i.zero.map (·.cells.size), i.size)) = some (some n, n)) (hn : n ≠ 1) : ∃ cs : Array Value, cs.size = n ∧ ∀ w, (zeroValue t).run P w = .ok (.agg cs) w := by
  obtain ⟨i, z, hi, hz, hc, _⟩ := zparts h
  cases z
  case agg cs => exact ⟨cs, by simpa [Value.cells] using hc, fun w => by simp [zeroValue, typeInfo, hi, hz]⟩
  all_goals exact absurd hc.symm (by simpa [Value.cells] using hn)
theorem range_left {w : World} {b o : Nat} {x y : Array Value} (h : w.rangeAt b o (x ++ y).toList) : w.rangeAt b o x.toList := fun j v hv => h j v (by
  have hj := (List.getElem?_eq_some_iff.1 hv).1
  rw [Array.toList_append, List.getElem?_append_left hj]; exact hv)
theorem range_right {w : World} {b o : Nat} {x y : Array Value} (h : w.rangeAt b o (x ++ y).toList) : w.rangeAt b (o + x.size) y.toList := range_sub x.size h (fun j v hv => by
  rw [Array.toList_append, List.getElem?_append_right (by simp)]
  simpa using hv)

set_option maxRecDepth 100000 in
set_option maxHeartbeats 4000000 in
theorem wcmp_any (a b : Wt) (ha : IsW a) (hb : IsW b) (w : World) :
    Calls Try.prog 26 #[.agg (wcells a).toArray, .agg (wcells b).toArray] w fun e w' => e = .returned (.int .i64 (cmpW a b)) ∧ Lay w w' := by
  obtain ⟨i26, z26, hi26, hz26, hzs26, hs26⟩ := zparts zinfo26
  obtain ⟨i85, z85, hi85, hz85, hzs85, hs85⟩ := zparts zinfo85
  have HLa1 : Hid (∀ W, Calls Try.prog 33 #[.agg (kcells a.1).toArray, .agg (kcells b.1).toArray] W fun e w' => e = .returned (.bool (lessK a.1 b.1)) ∧ Lay W w') := fun W => less_any _ _ ha.1 hb.1 W
  have HLb1 : Hid (∀ W, Calls Try.prog 33 #[.agg (kcells b.1).toArray, .agg (kcells a.1).toArray] W fun e w' => e = .returned (.bool (lessK b.1 a.1)) ∧ Lay W w') := fun W => less_any _ _ hb.1 ha.1 W
  have HLa2 : Hid (∀ W, Calls Try.prog 33 #[.agg (kcells a.2).toArray, .agg (kcells b.2).toArray] W fun e w' => e = .returned (.bool (lessK a.2 b.2)) ∧ Lay W w') := fun W => less_any _ _ ha.2 hb.2 W
  have HLb2 : Hid (∀ W, Calls Try.prog 33 #[.agg (kcells b.2).toArray, .agg (kcells a.2).toArray] W fun e w' => e = .returned (.bool (lessK b.2 a.2)) ∧ Lay W w') := fun W => less_any _ _ hb.2 ha.2 W
  have HE : Hid (cmpW a b = if lessK a.1 b.1 then -1 else if lessK b.1 a.1 then 1 else if lessK a.2 b.2 then -1 else if lessK b.2 a.2 then 1 else 0) := (rfl : cmpW a b = _)
  have ones0 : ∀ v ∈ ((kcells a.1).toArray ++ (kcells b.1).toArray).toList, v.oneCell' = true := by
    intro v hv
    rw [Array.toList_append] at hv
    rcases List.mem_append.1 hv with h | h <;> exact kcells_ones _ v (by simpa using h)
  have ones1 : ∀ v ∈ ((kcells a.2).toArray ++ (kcells b.2).toArray).toList, v.oneCell' = true := by
    intro v hv
    rw [Array.toList_append] at hv
    rcases List.mem_append.1 hv with h | h <;> exact kcells_ones _ v (by simpa using h)
  have ea : (wcells a).toArray = (kcells a.1).toArray ++ (kcells a.2).toArray := by simp [wcells]
  have eb : (wcells b).toArray = (kcells b.1).toArray ++ (kcells b.2).toArray := by simp [wcells]
  have sX0 : (kcells a.1).toArray.size = 33 := by simp [kcells_length ha.1]
  have sX1 : (kcells a.2).toArray.size = 33 := by simp [kcells_length ha.2]
  have sY0 : (kcells b.1).toArray.size = 33 := by simp [kcells_length hb.1]
  have sY1 : (kcells b.2).toArray.size = 33 := by simp [kcells_length hb.2]
  rw [ea, eb]
  obtain ⟨l0, hl0⟩ : ∃ l, lessK a.1 b.1 = l := ⟨_, rfl⟩
  obtain ⟨g0, hg0⟩ : ∃ l, lessK b.1 a.1 = l := ⟨_, rfl⟩
  obtain ⟨l1, hl1⟩ : ∃ l, lessK a.2 b.2 = l := ⟨_, rfl⟩
  obtain ⟨g1, hg1⟩ : ∃ l, lessK b.2 a.2 = l := ⟨_, rfl⟩
  obtain ⟨X0, hX0⟩ : ∃ X, (kcells a.1).toArray = X := ⟨_, rfl⟩
  obtain ⟨X1, hX1⟩ : ∃ X, (kcells a.2).toArray = X := ⟨_, rfl⟩
  obtain ⟨Y0, hY0⟩ : ∃ X, (kcells b.1).toArray = X := ⟨_, rfl⟩
  obtain ⟨Y1, hY1⟩ : ∃ X, (kcells b.2).toArray = X := ⟨_, rfl⟩
  rw [hl0] at HLa1 HE
  rw [hg0] at HLb1 HE
  rw [hl1] at HLa2 HE
  rw [hg1] at HLb2 HE
  rw [hX0] at HLa1 HLb1 sX0 ones0 ⊢
  rw [hX1] at HLa2 HLb2 sX1 ones1 ⊢
  rw [hY0] at HLa1 HLb1 sY0 ones0 ⊢
  rw [hY1] at HLa2 HLb2 sY1 ones1 ⊢
  clear hl0 hg0 hl1 hg1 hX0 hX1 hY0 hY1 ea eb ha hb
  have iX0 : (Try.prog.info? 26).map (·.size) = some X0.size := by rw [kinfo, sX0]
  have iX1 : (Try.prog.info? 26).map (·.size) = some X1.size := by rw [kinfo, sX1]
  have iY0 : (Try.prog.info? 26).map (·.size) = some Y0.size := by rw [kinfo, sY0]
  have iY1 : (Try.prog.info? 26).map (·.size) = some Y1.size := by rw [kinfo, sY1]
  have i850 : (Try.prog.info? 85).map (·.size) = some (X0 ++ Y0).size := by rw [size85, Array.size_append, sX0, sY0]
  have i851 : (Try.prog.info? 85).map (·.size) = some (X1 ++ Y1).size := by rw [size85, Array.size_append, sX1, sY1]
  have rA : ((w.alloc (.cells (X0 ++ X1) 35)).alloc (.cells (Y0 ++ Y1) 35)).rangeAt w.heap.size 0 (X0 ++ X1).toList := ((Blk.new w 35 _).alloc _).range
  have rB : ((w.alloc (.cells (X0 ++ X1) 35)).alloc (.cells (Y0 ++ Y1) 35)).rangeAt (w.heap.size + 1) 0 (Y0 ++ Y1).toList := by
    have := (Blk.new (w.alloc (.cells (X0 ++ X1) 35)) 35 (Y0 ++ Y1)).range
    rw [World.size_alloc] at this
    exact this
  have rA1 : Hid (((w.alloc (.cells (X0 ++ X1) 35)).alloc (.cells (Y0 ++ Y1) 35)).rangeAt w.heap.size 33 X1.toList) := by have := range_right rA; rw [sX0] at this; exact this
  have rB1 : Hid (((w.alloc (.cells (X0 ++ X1) 35)).alloc (.cells (Y0 ++ Y1) 35)).rangeAt (w.heap.size + 1) 33 Y1.toList) := by have := range_right rB; rw [sY0] at this; exact this
  have rA0 := Lib.hid (range_left rA)
  have rB0 := Lib.hid (range_left rB)
  have HL0 := Lib.hid (((Lay.refl w).alloc (.cells (X0 ++ X1) 35)).alloc (.cells (Y0 ++ Y1) 35))
  have hbs : ((w.alloc (.cells (X0 ++ X1) 35)).alloc (.cells (Y0 ++ Y1) 35)).heap.size = w.heap.size + 1 + 1 := by simp
  have Q := (Blk.new ((w.alloc (.cells (X0 ++ X1) 35)).alloc (.cells (Y0 ++ Y1) 35)) 85 ((X0 ++ Y0) ++ (X1 ++ Y1))).range
  rw [hbs] at Q
  have Q1 := range_right Q
  rw [Array.size_append, sX0, sY0] at Q1
  have HQ1 := Lib.hid Q1
  have HQ0 := Lib.hid (range_left Q)
  clear rA rB Q Q1 hbs
  go_enter Try.func26, Try.ntmps26
  go_wp2_with (first
    | (refine wpList_load_range 26 (.tmp 7) w.heap.size 0 X0 _ rfl rfl rfl Try.underlying26 rfl iX0 rA0.out ?_)
    | (refine wpList_load_range 26 (.tmp 9) (w.heap.size + 1) 0 Y0 _ rfl rfl rfl Try.underlying26 rfl iY0 rB0.out ?_)
    | (refine wpList_build_two 85 26 (.tmp 8) (.tmp 10) X0 Y0 rfl rfl rfl rfl Try.underlying85 hi85 hz85 (by rw [hzs85, sX0]) hi26 (by rw [hs26, sX0]) (by rw [sX0, sY0]) ?_)
    | (refine wpList_load_range 26 (.tmp 12) w.heap.size 33 X1 _ rfl rfl rfl Try.underlying26 rfl iX1 rA1.out ?_)
    | (refine wpList_load_range 26 (.tmp 14) (w.heap.size + 1) 33 Y1 _ rfl rfl rfl Try.underlying26 rfl iY1 rB1.out ?_)
    | (refine wpList_build_two 85 26 (.tmp 13) (.tmp 15) X1 Y1 rfl rfl rfl rfl Try.underlying85 hi85 hz85 (by rw [hzs85, sX1]) hi26 (by rw [hs26, sX1]) (by rw [sX1, sY1]) ?_)
    | (refine wpList_slice_two 86 85 (.tmp 11) (.tmp 16) (X0 ++ Y0) (X1 ++ Y1) rfl rfl rfl rfl Try.underlying86 hi85 hz85 (by rw [hs85, Array.size_append, sX0, sY0]) (by rw [Array.size_append, Array.size_append, sX0, sY0, sX1, sY1]) (by rw [Array.size_append, sX0, sY0]; omega) (by rw [Array.size_append, sX0, sY0]; omega) ?_))
  obtain ⟨W1, hW1⟩ : ∃ W1, W1 = ((w.alloc (.cells (X0 ++ X1) 35)).alloc (.cells (Y0 ++ Y1) 35)).alloc (.cells (X0 ++ (Y0 ++ (X1 ++ Y1))) 85) := ⟨_, rfl⟩
  have HL1 : Hid (Lay w W1) := by rw [hW1]; exact HL0.out.alloc _
  rw [Array.append_assoc (xs := X0) (ys := Y0) (zs := X1 ++ Y1)] at HQ0 HQ1
  rw [← hW1] at HQ0 HQ1 ⊢
  have hbl : w.heap.size + 1 + 1 < W1.heap.size := by rw [hW1]; simp
  obtain ⟨bs, hbs⟩ : ∃ bs, bs = w.heap.size + 1 + 1 := ⟨_, rfl⟩
  rw [← hbs] at HQ0 HQ1 hbl ⊢
  have hwb : w.heap.size ≤ bs := by omega
  clear rA0 rB0 rA1 rB1 HL0 hW1 hbs iX0 iX1 iY0 iY1 hi26 hz26 hzs26 hs26 hi85 hz85 hzs85 hs85
  obtain ⟨z85, hzs, hzv⟩ := zero_agg zinfo85 (by decide)
  refine wp_loop_rounds 3 ?_
  rw [rounds_succ]
  go_wp2_with (first
    | (refine wpList_load_range 85 (.tmp 21) bs 0 (X0 ++ Y0) _ rfl rfl rfl Try.underlying85 rfl i850 HQ0.out ?_)
    | (refine wpList_store_blk 85 (.tmp 6) (.tmp 22) W1.heap.size _ (X0 ++ Y0) rfl rfl rfl rfl i850 (Blk.new _ _ _) (by rw [Array.size_append, sX0, sY0, hzs]) ones0 ?_))
  intro v0 kb0 kg0 kd0
  have KL0 := Lib.hid (lay_store (HL1.out.alloc _) kg0 kd0 HL1.out.below.size)
  have KB0 : Below W1.heap.size W1 v0 := (((Below.refl _ W1).alloc (Nat.le_refl _) _).grown kg0 (by simp) (fun j e => by injection e with e; omega))
  have kx0 := Lib.hid (range_left kb0.range)
  have ky0 := range_right kb0.range
  rw [sX0, Nat.zero_add] at ky0
  have KY0 := Lib.hid ky0
  have klt0 := kb0.lt
  obtain ⟨nb0, hnb0⟩ : ∃ nb, W1.heap.size = nb := ⟨_, rfl⟩
  have hbn0 : bs < W1.heap.size := by omega
  rw [hnb0] at kx0 KY0 klt0 ⊢
  have HN1 := Lib.hid (range_below HQ1.out KB0 hbn0)
  have kw0 := KB0.size
  clear kb0 kg0 kd0 KB0 ky0 hnb0
  have iX : (Try.prog.info? 26).map (·.size) = some X0.size := by rw [kinfo, sX0]
  have iY : (Try.prog.info? 26).map (·.size) = some Y0.size := by rw [kinfo, sY0]
  go_wp2_with (first
    | (refine wpList_load_range 26 (.tmp 24) nb0 0 X0 _ rfl rfl rfl Try.underlying26 rfl iX kx0.out ?_)
    | (refine wpList_load_range 26 (.tmp 26) nb0 33 Y0 _ rfl rfl rfl Try.underlying26 rfl iY KY0.out ?_))
  refine (HLa1.out _).mono ?_
  rintro e p0 ⟨rfl, hp0⟩
  have KP0 := Lib.hid (KL0.out.trans hp0)
  have kx0' := Lib.hid (range_below kx0.out hp0.below klt0)
  have KY0' := Lib.hid (range_below KY0.out hp0.below klt0)
  have kp0 := hp0.below.size
  have HN2 := Lib.hid (range_below HN1.out hp0.below (by omega))
  clear hp0
  cases l0 with
  | true =>
    go_wp2_with fail
    go_ret
    exact ⟨by rw [HE.out]; rfl, KP0.out⟩
  | false =>
    go_wp2_with (first
      | (refine wpList_load_range 26 (.tmp 30) nb0 33 Y0 _ rfl rfl rfl Try.underlying26 rfl iY KY0'.out ?_)
      | (refine wpList_load_range 26 (.tmp 32) nb0 0 X0 _ rfl rfl rfl Try.underlying26 rfl iX kx0'.out ?_))
    refine (HLb1.out _).mono ?_
    rintro e q0 ⟨rfl, hq0⟩
    have KQ0 := Lib.hid (KP0.out.trans hq0)
    have kq0 := hq0.below.size
    have HN3 := Lib.hid (range_below HN2.out hq0.below (by omega))
    clear hq0
    cases g0 with
    | true =>
      go_wp2_with fail
      go_ret
      exact ⟨by rw [HE.out]; rfl, KQ0.out⟩
    | false =>
      go_wp2_with fail
      have hbs2 : bs < q0.heap.size := by omega
      clear iX iY
      rw [rounds_succ]
      go_wp2_with (first
        | (refine wpList_load_range 85 (.tmp 21) bs 66 (X1 ++ Y1) _ rfl rfl rfl Try.underlying85 rfl i851 HN3.out ?_)
        | (refine wpList_store_blk 85 (.tmp 6) (.tmp 22) q0.heap.size _ (X1 ++ Y1) rfl rfl rfl rfl i851 (Blk.new _ _ _) (by rw [Array.size_append, sX1, sY1, hzs]) ones1 ?_))
      intro v1 kb1 kg1 kd1
      have KL1 := Lib.hid (lay_store (KQ0.out.alloc _) kg1 kd1 KQ0.out.below.size)
      have KB1 : Below q0.heap.size q0 v1 := (((Below.refl _ q0).alloc (Nat.le_refl _) _).grown kg1 (by simp) (fun j e => by injection e with e; omega))
      have kx1 := Lib.hid (range_left kb1.range)
      have ky1 := range_right kb1.range
      rw [sX1, Nat.zero_add] at ky1
      have KY1 := Lib.hid ky1
      have klt1 := kb1.lt
      obtain ⟨nb1, hnb1⟩ : ∃ nb, q0.heap.size = nb := ⟨_, rfl⟩
      have hbn1 : bs < q0.heap.size := by omega
      rw [hnb1] at kx1 KY1 klt1 ⊢
      clear kb1 kg1 kd1 KB1 ky1 hnb1
      have iX : (Try.prog.info? 26).map (·.size) = some X1.size := by rw [kinfo, sX1]
      have iY : (Try.prog.info? 26).map (·.size) = some Y1.size := by rw [kinfo, sY1]
      go_wp2_with (first
        | (refine wpList_load_range 26 (.tmp 24) nb1 0 X1 _ rfl rfl rfl Try.underlying26 rfl iX kx1.out ?_)
        | (refine wpList_load_range 26 (.tmp 26) nb1 33 Y1 _ rfl rfl rfl Try.underlying26 rfl iY KY1.out ?_))
      refine (HLa2.out _).mono ?_
      rintro e p1 ⟨rfl, hp1⟩
      have KP1 := Lib.hid (KL1.out.trans hp1)
      have kx1' := Lib.hid (range_below kx1.out hp1.below klt1)
      have KY1' := Lib.hid (range_below KY1.out hp1.below klt1)
      have kp1 := hp1.below.size
      clear hp1
      cases l1 with
      | true =>
        go_wp2_with fail
        go_ret
        exact ⟨by rw [HE.out]; rfl, KP1.out⟩
      | false =>
        go_wp2_with (first
          | (refine wpList_load_range 26 (.tmp 30) nb1 33 Y1 _ rfl rfl rfl Try.underlying26 rfl iY KY1'.out ?_)
          | (refine wpList_load_range 26 (.tmp 32) nb1 0 X1 _ rfl rfl rfl Try.underlying26 rfl iX kx1'.out ?_))
        refine (HLb2.out _).mono ?_
        rintro e q1 ⟨rfl, hq1⟩
        have KQ1 := Lib.hid (KP1.out.trans hq1)
        have kq1 := hq1.below.size
        clear hq1
        cases g1 with
        | true =>
          go_wp2_with fail
          go_ret
          exact ⟨by rw [HE.out]; rfl, KQ1.out⟩
        | false =>
          go_wp2_with fail
          rw [rounds_succ]
          go_wp2_with fail
          go_ret
          exact ⟨by rw [HE.out]; rfl, KQ1.out⟩
end Go.Proofs.Ythjgmnafbikihaa
