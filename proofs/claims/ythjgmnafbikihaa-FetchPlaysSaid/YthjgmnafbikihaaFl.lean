/-
  Fetch: New, Has.
-/
import Derived.Test.YthjgmnafbikihaaFk
import Derived.Deep.RegionHeld3
set_option linter.unusedSimpArgs false
set_option linter.unusedVariables false
namespace Go.Proofs.Ythjgmnafbikihaa
open Go.RowKit Go.Maps Go.Sort

/-- the table's block. -/
def tbCells (base most budget : Int) (b : Nat) : Array Value := #[.int .i64 base, .int .i64 most, .int .i64 budget, .map (some b)]
structure Tb (w : World) (g b : Nat) (base most budget : Int) (E : En) : Prop where
  blk : Blk w g 65 (tbCells base most budget b)
  tab : Tab w b E
  srt : Srt E
section
variable {w w' : World} {g b : Nat} {base most budget : Int} {E : En}
theorem Tb.gb (h : Tb w g b base most budget E) : g ≠ b := by
  rintro rfl
  obtain ⟨D, ⟨es, c, hb, _⟩, _⟩ := h.tab
  have h1 : w.heap[g]? = _ := h.blk
  rw [hb] at h1
  injection h1 with h1
  cases h1
theorem Tb.all (h : Tb w g b base most budget E) (hB : Below w.heap.size w w') : Tb w' g b base most budget E :=
  ⟨h.blk.below hB h.blk.lt, h.tab.block (hB.block b h.tab.lt), h.srt⟩
theorem tb_cells (h : Blk w g 65 (tbCells base most budget b)) : w.cell? ⟨g, 0, none⟩ = some (.int .i64 base) ∧ w.cell? ⟨g, 1, none⟩ = some (.int .i64 most) ∧ w.cell? ⟨g, 2, none⟩ = some (.int .i64 budget) ∧ w.cell? ⟨g, 3, none⟩ = some (.map (some b)) :=
  ⟨h.cell 0, h.cell 1, h.cell 2, h.cell 3⟩
end
theorem below_dr {B : Nat} {a w : World} (h : Below B a w) : Below B a w.drew := ⟨h.os, h.tape, h.output, h.size, h.block⟩
theorem below_dN {B : Nat} {a w : World} (h : Below B a w) (n : Nat) : Below B a (w.drewN n) := ⟨h.os, h.tape, h.output, h.size, h.block⟩
theorem bthen {w a b : World} (h : Below w.heap.size w a) (k : Below a.heap.size a b) : Below w.heap.size w b := h.trans (k.mono h.size)

theorem within_any (x a b : Int) (w : World) : Calls Try.prog 22 #[.int .i64 x, .int .i64 a, .int .i64 b] w fun e w' => e = .returned (.bool (decide (a ≤ x) && decide (x ≤ b))) ∧ w' = w := by
  by_cases h1 : a ≤ x
  · by_cases h2 : x ≤ b
    · go_enter Try.func22, Try.ntmps22
      go_wp2
      go_ret
      exact ⟨by rw [decide_eq_true h1, decide_eq_true h2]; rfl, rfl⟩
    · have e2 := decide_eq_false h2
      have E2 := Lib.hid e2
      clear e2
      go_enter Try.func22, Try.ntmps22
      go_wp2
      go_ret
      refine ⟨?_, rfl⟩
      first | rfl | (simp; done) | (simp [E2.out]; done) | kernel_rfl
  · have e1 := decide_eq_false h1
    have E1 := Lib.hid e1
    clear e1
    go_enter Try.func22, Try.ntmps22
    go_wp2
    go_ret
    refine ⟨?_, rfl⟩
    first | rfl | (rw [E1.out, Bool.false_and]; rfl)

def newOk (base most budget : Int) : Prop := 1 ≤ base ∧ base ≤ 100 ∧ base ≤ most ∧ most ≤ 1000 ∧ 1 ≤ budget ∧ budget ≤ 20
theorem new_ok (base most budget : Int) (w : World) (h : newOk base most budget) :
    Calls Try.prog 9 #[.int .i64 base, .int .i64 most, .int .i64 budget] w fun e w' => ∃ g b, e = .returned (.tuple #[.pointer (some ⟨g, 0, none⟩), .int .i64 0]) ∧ Tb w' g b base most budget [] ∧ w.heap.size ≤ g ∧ w.heap.size ≤ b ∧ Below w.heap.size w w' := by
  obtain ⟨h1, h2, h3, h4, h5, h6⟩ := h
  have hmm := @run_makeMap Try.prog
  have c1 := within_any base 1 100 w
  have c2 := within_any most base 1000 w
  have c3 := within_any budget 1 20 w
  rw [show (decide ((1 : Int) ≤ base) && decide (base ≤ 100)) = true by simp [h1, h2]] at c1
  rw [show (decide (base ≤ most) && decide (most ≤ 1000)) = true by simp [h3, h4]] at c2
  rw [show (decide ((1 : Int) ≤ budget) && decide (budget ≤ 20)) = true by simp [h5, h6]] at c3
  have C1 := Lib.hid c1
  have C2 := Lib.hid c2
  have C3 := Lib.hid c3
  clear c1 c2 c3
  go_enter Try.func9, Try.ntmps9
  go_wp2_with fail
  refine C1.out.mono ?_
  rintro e w' ⟨rfl, rfl⟩
  go_wp2_with fail
  refine C2.out.mono ?_
  rintro e w' ⟨rfl, rfl⟩
  go_wp2_with fail
  refine C3.out.mono ?_
  rintro e w' ⟨rfl, rfl⟩
  go_wp2_with fail
  go_ret2
  refine ⟨w'.heap.size + 1, w'.heap.size, by simp, ?_, by omega, by omega, ((Below.refl _ _).alloc (Nat.le_refl _) _).alloc (by simp) _⟩
  refine ⟨?_, ?_, List.Pairwise.nil⟩
  · simpa [tbCells] using Blk.new (w'.alloc (.map #[] 0)) 65 (tbCells base most budget w'.heap.size)
  · exact (tab_made w').kept (World.grownBy_alloc _ _ none) (by simp)

set_option maxRecDepth 100000 in
set_option maxHeartbeats 1000000 in
theorem has_any (g b : Nat) (base most budget : Int) (E : En) (x : WS) (w : World) (h : Tb w g b base most budget E) :
    Calls Try.prog 13 #[.pointer (some ⟨g, 0, none⟩), wv x] w fun e w' => e = .returned (.bool (lk E x).isSome) ∧ Below w.heap.size w w' := by
  obtain ⟨il, hil⟩ : ∃ il, encS x = il := ⟨_, rfl⟩
  have hwv : wv x = .agg il.toArray := by rw [← hil]; rfl
  obtain ⟨W, hW⟩ : ∃ W, W = w.alloc (.cells il.toArray 35) := ⟨_, rfl⟩
  have hB : Below w.heap.size w W := by rw [hW]; exact (Below.refl _ w).alloc (Nat.le_refl _) _
  have hT := h.all hB
  have hbk : Blk W w.heap.size 35 il.toArray := by rw [hW]; exact Blk.new w 35 _
  obtain ⟨st, hst⟩ : ∃ st, (lk E x).getD (0, 0) = st := ⟨_, rfl⟩
  obtain ⟨is, his⟩ : ∃ is, (lk E x).isSome = is := ⟨_, rfl⟩
  have hi35 : (Try.prog.info? 35).map (·.size) = some il.length := by rw [← hil]; simpa using size35 x
  have hu35 := Try.underlying35
  obtain ⟨bx, hbx⟩ : ∃ bx, bx = w.heap.size := ⟨_, rfl⟩
  have SG : Hid (∀ w', Below W.heap.size W w' → w'.cell? ⟨g, 3, none⟩ = some (.map (some b)) ∧ w'.rangeAt bx 0 il ∧ (Instr.lookup 63 (.map (some b)) (.agg il.toArray) true).run Try.prog w' = .ok (.tuple #[.agg #[.int .i64 st.1, .int .i64 st.2], .bool is]) w') := by
    intro w' hw'
    have h1 := hT.all hw'
    refine ⟨(tb_cells h1.blk).2.2.2, ?_, ?_⟩
    · rw [hbx]; have := (hbk.below hw' hbk.lt).range; simpa using this
    · have := h1.tab.look_ok x
      rw [hst, his, hwv] at this
      exact this
  have hBr : Below W.heap.size W W := Below.refl _ _
  rw [hwv, his]
  have HB := Lib.hid hB
  have hgl := hT.blk.lt
  clear h hil hwv hB hT hbk hst his
  go_enter Try.func13, Try.ntmps13
  go_wp2_with fail
  rw [← hW, ← hbx]
  clear hW hbx
  refine wp_region_held_drew (S := (fun w' => Below W.heap.size W w')) (by kernel_rfl) (below_dr hBr) (fun hHeld => ?_)
  refine wpAnyH_take (i := 0) (v := .pointer (some ⟨g, 0, none⟩)) rfl (by kernel_rfl) (by kernel_rfl) (by kernel_rfl) (fun _ _ _ h => h) (Or.inl ⟨by rfl, fun w' hw' => by go_simp⟩) hHeld ?_
  try simp only [Act.put, List.setIfInBounds_toArray, List.set_cons_zero, List.set_cons_succ]
  refine wpAnyH_take (i := 1) (v := .pointer (some ⟨g, 0, none⟩)) rfl (by kernel_rfl) (by kernel_rfl) (by kernel_rfl) (fun _ _ _ h => h) (Or.inl ⟨by rfl, fun w' hw' => by go_simp⟩) hHeld ?_
  try simp only [Act.put, List.setIfInBounds_toArray, List.set_cons_zero, List.set_cons_succ]
  refine wpAnyH_take (i := 2) (v := .pointer (some ⟨g, 3, none⟩)) rfl (by kernel_rfl) (by kernel_rfl) (by kernel_rfl) (fun _ _ _ h => h) (Or.inl ⟨by rfl, fun w' hw' => by go_simp⟩) hHeld ?_
  try simp only [Act.put, List.setIfInBounds_toArray, List.set_cons_zero, List.set_cons_succ]
  refine wpAnyH_take (i := 3) (v := .map (some b)) rfl (by kernel_rfl) (by kernel_rfl) (by kernel_rfl) (fun _ _ _ h => h) (Or.inl ⟨by rfl, fun w' hw' => by obtain ⟨f1, f2, f3⟩ := SG.out w' hw'; go_simp⟩) hHeld ?_
  try simp only [Act.put, List.setIfInBounds_toArray, List.set_cons_zero, List.set_cons_succ]
  refine wpAnyH_take (i := 4) (v := .agg (List.toArray il)) rfl (by kernel_rfl) (by kernel_rfl) (by kernel_rfl) (fun _ _ _ h => h) (yieldsIf_load_mid (by rfl) 35 (.tmp 3) rfl bx 0 rfl il _ (fun w' hw' => (SG.out w' hw').2.1) hu35 rfl hi35) hHeld ?_
  try simp only [Act.put, List.setIfInBounds_toArray, List.set_cons_zero, List.set_cons_succ]
  refine wpAnyH_take (i := 5) (v := .tuple #[.agg #[.int .i64 st.1, .int .i64 st.2], .bool is]) rfl (by kernel_rfl) (by kernel_rfl) (by kernel_rfl) (fun _ _ _ h => h) (Or.inl ⟨by rfl, fun w' hw' => by obtain ⟨f1, f2, f3⟩ := SG.out w' hw'; go_simp⟩) hHeld ?_
  try simp only [Act.put, List.setIfInBounds_toArray, List.set_cons_zero, List.set_cons_succ]
  refine wpAnyH_take (i := 6) (v := .tuple #[.agg #[.int .i64 st.1, .int .i64 st.2], .bool is]) rfl (by kernel_rfl) (by kernel_rfl) (by kernel_rfl) (fun _ _ _ h => h) (Or.inl ⟨by rfl, fun w' hw' => by go_simp⟩) hHeld ?_
  try simp only [Act.put, List.setIfInBounds_toArray, List.set_cons_zero, List.set_cons_succ]
  refine wpAnyH_take (i := 7) (v := .agg #[.int .i64 st.1, .int .i64 st.2]) rfl (by kernel_rfl) (by kernel_rfl) (by kernel_rfl) (fun _ _ _ h => h) (Or.inl ⟨by rfl, fun w' hw' => by go_simp⟩) hHeld ?_
  try simp only [Act.put, List.setIfInBounds_toArray, List.set_cons_zero, List.set_cons_succ]
  refine wpAnyH_take (i := 8) (v := .bool is) rfl (by kernel_rfl) (by kernel_rfl) (by kernel_rfl) (fun _ _ _ h => h) (Or.inl ⟨by rfl, fun w' hw' => by go_simp⟩) hHeld ?_
  try simp only [Act.put, List.setIfInBounds_toArray, List.set_cons_zero, List.set_cons_succ]
  refine wpAnyH_ready (rs := [9]) (by kernel_rfl) (by simp) ?_
  refine AllReadyH.cons rfl (fun K hK => ?_) AllReadyH.nil
  go_simp
  refine hK.out _ _ (below_dr (hBr.alloc (Nat.le_refl _) _)) (fun hHeld => ?_)
  clear hK K
  try simp only [Act.put, List.setIfInBounds_toArray, List.set_cons_zero, List.set_cons_succ]
  refine wpAnyH_ready (rs := [10]) (by kernel_rfl) (by simp) ?_
  refine AllReadyH.cons rfl (fun K hK => ?_) AllReadyH.nil
  go_simp
  refine hK.out _ _ (below_dr (hBr.alloc (Nat.le_refl _) _)) (fun hHeld => ?_)
  clear hK K
  try simp only [Act.put, List.setIfInBounds_toArray, List.set_cons_zero, List.set_cons_succ]
  refine wpAnyH_ready (rs := [11]) (by kernel_rfl) (by simp) ?_
  refine AllReadyH.cons rfl (fun K hK => ?_) AllReadyH.nil
  go_simp
  refine hK.out _ _ (below_dr (hBr.alloc (Nat.le_refl _) _)) (fun hHeld => ?_)
  clear hK K
  try simp only [Act.put, List.setIfInBounds_toArray, List.set_cons_zero, List.set_cons_succ]
  refine wpAnyH_done (by kernel_rfl) ?_ _
  go_wp2_with fail
  go_ret
  exact ⟨by simp, HB.out.trans (below_dr ((Below.refl W.heap.size W).alloc (Nat.le_refl _) _) |>.mono HB.out.size)⟩
end Go.Proofs.Ythjgmnafbikihaa
