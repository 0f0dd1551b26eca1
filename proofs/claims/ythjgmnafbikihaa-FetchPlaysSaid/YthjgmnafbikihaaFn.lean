/-
  Fetch: Open.
-/
import Derived.Test.YthjgmnafbikihaaFm
set_option linter.unusedSimpArgs false
set_option linter.unusedVariables false
namespace Go.Proofs.Ythjgmnafbikihaa
open Go.RowKit Go.Maps Go.Sort

set_option maxHeartbeats 2000000 in
/-- Open: the keys, in order, in a new row. -/
theorem open_any (g b : Nat) (base most budget : Int) (E : En) (w : World) (h : Tb w g b base most budget E) (hE : E.length ≤ 1000000) :
    Calls Try.prog 14 #[.pointer (some ⟨g, 0, none⟩)] w fun e w' => ∃ v, e = .returned v ∧ w'.ownsRow w.heap.size 35 66 v E.length (wrow (keysE E)) ∧ Below w.heap.size w w' := by
  refine (callsIn_wide (n := 7)).1 ?_
  have hcell := (tb_cells h.blk).2.2.2
  obtain ⟨D, hown, hsz, hD⟩ := h.tab
  have hbl := hown.lt
  have hmax : Maps.size D ≤ maxLen := by rw [hsz]; unfold maxLen; omega
  have hbytes : Maps.size D * 80 ≤ 140737488355328 := by rw [hsz]; omega
  obtain ⟨W, hW⟩ : ∃ W, W = w.alloc (.cells #[.map (some b)] 63) := ⟨_, rfl⟩
  have hseq : SeqGives Fence.wide 3 Try.prog 32 #[.pointer (some ⟨w.heap.size, 0, none⟩)] wv (KeysAre D) (Maps.size D) W :=
    keys_gives Fence.wide _ trivial rfl (by omega) w.heap.size b E.length D W (by rw [hW]; simp) (by rw [hW]; simp) (by
      obtain ⟨es, clock, hb, Ft, hs, hD⟩ := hown
      rw [hW]
      exact ⟨es, clock, (Below.heap_alloc _ _ b hbl).trans hb, Ft, hs, hD⟩)
  have cK : ∀ mb W, CallsIn Fence.wide 6 Try.prog 25 #[.map mb] W fun e w' => e = .returned (.func (.func 32) #[] #[.pointer (some ⟨W.heap.size, 0, none⟩)]) ∧ w' = W.alloc (.cells #[.map mb] 63) := fun mb W => keysFn_in Fence.wide 6 trivial rfl mb W
  have cS := sorted_in 6 (by omega) 32 #[.pointer (some ⟨w.heap.size, 0, none⟩)] (enters_of Try.func32 (by kernel_rfl) rfl) (KeysAre D) (Maps.size D) hmax hbytes W hseq
  have hfK : Fence.wide.fn 25 := trivial
  have hfS : Fence.wide.fn 24 := trivial
  have HS := Lib.hid (fun ss hs => sort_keys (ss := ss) h.srt hs (fun x kl hk => (hD x kl hk).1))
  have hB : Below w.heap.size w W := by rw [hW]; exact (Below.refl _ w).alloc (Nat.le_refl _) _
  have HB := Lib.hid hB
  have hWs : w.heap.size ≤ W.heap.size := hB.size
  clear hown hsz hD hseq hmax hbytes h hB
  refine callsIn_of_wp Try.func14 rfl trivial ?_ rfl
  simp only [Try.ntmps14, List.size_toArray, List.length_cons, List.length_nil, Nat.reduceAdd, Nat.reduceSub, Array.replicate_succ, Array.replicate_zero, List.push_toArray, List.append_toArray, List.nil_append, List.cons_append]
  gi_wp2_with (first
    | (gi_at_call 25; refine (cK _ _).mono ?_; rintro e w' ⟨rfl, rfl⟩)
    | (gi_at_call 24; rw [← hW]; refine cS.mono ?_; rintro e w' ⟨v, ss, rfl, hS, hrow, hb⟩))
  go_ret
  obtain ⟨e1, e2⟩ := HS.out ss hS
  rw [e1, e2] at hrow
  exact ⟨v, rfl, ownsRow_base_a hrow hWs, HB.out.trans (hb.mono HB.out.size)⟩
/-- at none: nothing. -/
theorem open_nil (w : World) : Calls Try.prog 14 #[.pointer none] w fun e w' => e = .returned (.slice none 0 0) ∧ w' = w := by
  go_enter Try.func14, Try.ntmps14
  go_wp2
  go_ret
  exact ⟨rfl, rfl⟩
theorem has_nil (x : WS) (w : World) : Calls Try.prog 13 #[.pointer none, wv x] w fun e w' => e = .returned (.bool false) ∧ Below w.heap.size w w' := by
  obtain ⟨il, hil⟩ : ∃ il, encS x = il := ⟨_, rfl⟩
  have hwv : wv x = .agg il.toArray := by rw [← hil]; rfl
  rw [hwv]
  clear hwv hil
  go_enter Try.func13, Try.ntmps13
  go_wp2_with fail
  go_ret
  exact ⟨rfl, (Below.refl _ w).alloc (Nat.le_refl _) _⟩
set_option maxRecDepth 100000 in
set_option maxHeartbeats 1000000 in
theorem start_nil (x : WS) (w : World) : Calls Try.prog 11 #[.pointer none, wv x] w fun e w' => e = .returned (.bool false) ∧ Below w.heap.size w w' := by
  obtain ⟨il, hil⟩ : ∃ il, encS x = il := ⟨_, rfl⟩
  have hwv : wv x = .agg il.toArray := by rw [← hil]; rfl
  rw [hwv]
  clear hwv hil
  go_enter Try.func11, Try.ntmps11
  go_wp2_with fail
  go_ret
  exact ⟨rfl, (Below.refl _ w).alloc (Nat.le_refl _) _⟩
set_option maxRecDepth 100000 in
set_option maxHeartbeats 1000000 in
theorem done_nil (x : WS) (w : World) : Calls Try.prog 17 #[.pointer none, wv x] w fun e w' => e = .returned (.bool false) ∧ Below w.heap.size w w' := by
  obtain ⟨il, hil⟩ : ∃ il, encS x = il := ⟨_, rfl⟩
  have hwv : wv x = .agg il.toArray := by rw [← hil]; rfl
  have hi35 : (Try.prog.info? 35).map (·.size) = some il.toArray.size := by rw [← hil]; exact size35 x
  obtain ⟨W, hW⟩ : ∃ W, W = w.alloc (.cells il.toArray 35) := ⟨_, rfl⟩
  have hB : Below w.heap.size w W := by rw [hW]; exact (Below.refl _ w).alloc (Nat.le_refl _) _
  have hr0 : (w.alloc (.cells il.toArray 35)).rangeAt w.heap.size 0 il := by simpa using (Blk.new w 35 il.toArray).range
  have c1 := has_nil x W
  rw [hwv] at c1 ⊢
  have C1 := Lib.hid c1
  have HB := Lib.hid hB
  have HI := Lib.hid hi35
  have HR0 := Lib.hid hr0
  clear c1 hB hwv hil hi35 hr0
  go_enter Try.func17, Try.ntmps17
  go_wp2_with (first
    | (refine wpList_load_range 35 (.tmp 3) w.heap.size 0 il.toArray _ rfl rfl rfl Try.underlying35 rfl HI.out HR0.out ?_))
  rw [← hW]
  refine C1.out.mono ?_
  rintro e w1 ⟨rfl, hB1⟩
  have HB2 := Lib.hid (HB.out.trans (hB1.mono HB.out.size))
  clear hB1
  go_wp2_with fail
  go_ret
  exact ⟨rfl, HB2.out⟩
end Go.Proofs.Ythjgmnafbikihaa
