/-
  Fetch, the document's answer: how two keys stand.
-/
import Derived.Test.YthjgmnafbikihaaRa
set_option linter.unusedVariables false
set_option linter.unusedSimpArgs false
namespace Go.Proofs.Ythjgmnafbikihaa
open Go.RowKit Go.Maps Go.Sort

theorem exec_lss {o : Oper} {a : Act} {u v : Operand} {x y : List Int} (ho : o.op = .binOp .lss 9 u v 9) (hu : a.eval u = .string (strOfNums x)) (hv : a.eval v = .string (strOfNums y)) (hx : IsH x) (hy : IsH y) (w : World) :
    (execOp a.eval o).run Try.prog w = .ok (.value (.bool (decide (cmpL x y < 0)))) w := by
  have h : (binOp .lss 9 (.string (strOfNums x)) (.string (strOfNums y))).run Try.prog w = .ok (.bool (decide (cmpL x y < 0))) w := by
    rw [binOp_string_lss, Lib.strOfNums_toList, Lib.strOfNums_toList, less_str x y hx.2 hy.2]; rfl
  unfold execOp
  simp [ho, hu, hv, eqGuard_lss, h, Result.andThen]
theorem lessK_ne {a b : K} (h : a.1 ≠ b.1) : lessK a b = decide (a.1 < b.1) := by
  unfold lessK cmpK
  by_cases h1 : a.1 < b.1
  · rw [if_pos h1, decide_eq_true h1]; rfl
  · rw [if_neg h1, if_pos (by omega), decide_eq_false h1]; rfl
theorem lessK_eq {a b : K} (h : a.1 = b.1) : lessK a b = decide (cmpL a.2 b.2 < 0) := by
  unfold lessK cmpK
  rw [if_neg (by omega), if_neg (by omega)]
theorem kcells_parts {w : World} {g : Nat} {a : K} (h : Blk w g 26 (kcells a).toArray) : w.cell? ⟨g, 0, none⟩ = some (.int .u64 a.1) ∧ w.rangeAt g 1 (a.2.map (Value.int .u8)) := by
  refine ⟨h.cell 0, fun j v hv => ?_⟩
  have h1 := h.range (1 + j) v (by simpa [kcells, Nat.add_comm] using hv)
  simpa using h1
set_option maxRecDepth 100000 in
theorem rless_any (a b : K) (ha : IsK a) (hb : IsK b) (w : World) : Calls Try.prog 34 #[.agg (kcells a).toArray, .agg (kcells b).toArray] w fun e w' => e = .returned (.bool (lessK a b)) ∧ Lay w w' := by
  obtain ⟨al, hal⟩ : ∃ l, kcells a = l := ⟨_, rfl⟩
  obtain ⟨bl, hbl⟩ : ∃ l, kcells b = l := ⟨_, rfl⟩
  rw [hal, hbl]
  have hba := ((Blk.new w 26 al.toArray).alloc (.cells bl.toArray 26))
  have hbb := Blk.new (w.alloc (.cells al.toArray 26)) 26 bl.toArray
  rw [show (w.alloc (.cells al.toArray 26)).heap.size = w.heap.size + 1 by simp] at hbb
  have hl := ((Lay.refl w).alloc (.cells al.toArray 26)).alloc (.cells bl.toArray 26)
  obtain ⟨W, hW⟩ : ∃ W, W = (w.alloc (.cells al.toArray 26)).alloc (.cells bl.toArray 26) := ⟨_, rfl⟩
  rw [← hW] at hba hbb hl
  have HBA := hba
  have HBB := hbb
  rw [← hal] at hba
  rw [← hbl] at hbb
  obtain ⟨ca, ra⟩ := kcells_parts hba
  obtain ⟨cb, rb⟩ := kcells_parts hbb
  obtain ⟨ga, hga⟩ : ∃ ga, ga = w.heap.size := ⟨_, rfl⟩
  rw [← hga] at ca ra cb rb HBA HBB
  have hgl : ga + 1 < W.heap.size := HBB.lt
  have HL := Lib.hid hl
  have c1 : ((w.alloc (.cells al.toArray 26)).alloc (.cells bl.toArray 26)).cell? ⟨w.heap.size, 0, none⟩ = some (.int .u64 a.1) := by rw [← hW, ← hga]; exact ca
  have c2 : ((w.alloc (.cells al.toArray 26)).alloc (.cells bl.toArray 26)).cell? ⟨w.heap.size + 1, 0, none⟩ = some (.int .u64 b.1) := by rw [← hW, ← hga]; exact cb
  have CA := Lib.hid ca
  have CB := Lib.hid cb
  clear ca cb
  clear hal hbl hba hbb hl HBA HBB
  by_cases he : a.1 = b.1
  · have e1 := lessK_eq he
    have hne : (a.1 != b.1) = false := by simp [he]
    obtain ⟨ta, hta⟩ : ∃ l, a.2.map (Value.int .u8) = l := ⟨_, rfl⟩
    obtain ⟨tb, htb⟩ : ∃ l, b.2.map (Value.int .u8) = l := ⟨_, rfl⟩
    have t1 := fun w => Lib.hid (raw_any a.2 ha.2 w)
    have t2 := fun w => Lib.hid (raw_any b.2 hb.2 w)
    have la : (Try.prog.info? 24).map (·.size) = some ta.length := by
      have h : (Try.prog.info? 24).map (·.size) = some 32 := by kernel_rfl
      rw [h, ← hta]; simp [ha.2.1]
    have lb : (Try.prog.info? 24).map (·.size) = some tb.length := by
      have h : (Try.prog.info? 24).map (·.size) = some 32 := by kernel_rfl
      rw [h, ← htb]; simp [hb.2.1]
    have hu24 := Try.underlying24
    rw [hta] at ra t1
    rw [htb] at rb t2
    have SG : Hid (∀ w', Lay W w' → w'.rangeAt ga 1 ta ∧ w'.rangeAt (ga + 1) 1 tb) := fun w' hw' =>
      ⟨range_below ra hw'.below (by omega), range_below rb hw'.below (by omega)⟩
    rw [e1]
    have E1 := Lib.hid e1
    have HE := Lib.hid he
    have HA := Lib.hid ha.2
    have HB := Lib.hid hb.2
    rw [he] at c1
    clear e1 hta htb ra rb he ha hb
    have HWq := Lib.hid hW
    have HGq := Lib.hid hga
    clear hW hga
    go_enter Try.func34, Try.ntmps34
    go_wp2_with fail
    rw [← HWq.out, ← HGq.out]
    clear HWq HGq
    refine wp_region_held_drew (S := (fun w' => Lay W w')) (by kernel_rfl) ((Lay.refl W).drew) (fun hHeld => ?_)
    refine wpAnyH_take (i := 0) (v := .pointer (some ⟨ga, 1, none⟩)) rfl (by kernel_rfl) (by kernel_rfl) (by kernel_rfl) (fun _ _ _ h => h) (Or.inl ⟨by rfl, fun w' hw' => by go_simp⟩) hHeld ?_
    try simp only [Act.put, List.getElem_toArray, List.getElem_cons_succ, List.getElem_cons_zero, List.setIfInBounds_toArray, List.set_cons_zero, List.set_cons_succ]
    refine wpAnyH_take (i := 1) (v := .agg ta.toArray) rfl (by kernel_rfl) (by kernel_rfl) (by kernel_rfl) (fun _ _ _ h => h) (Or.inl ⟨by rfl, fun w' hw' => by exact exec_load rfl rfl (run_loadAt_mid w' ga 1 24 ta _ (SG.out w' hw').1 hu24 rfl la)⟩) hHeld ?_
    try simp only [Act.put, List.getElem_toArray, List.getElem_cons_succ, List.getElem_cons_zero, List.setIfInBounds_toArray, List.set_cons_zero, List.set_cons_succ]
    refine wpAnyH_take (i := 3) (v := .pointer (some ⟨ga + 1, 1, none⟩)) rfl (by kernel_rfl) (by kernel_rfl) (by kernel_rfl) (fun _ _ _ h => h) (Or.inl ⟨by rfl, fun w' hw' => by go_simp⟩) hHeld ?_
    try simp only [Act.put, List.getElem_toArray, List.getElem_cons_succ, List.getElem_cons_zero, List.setIfInBounds_toArray, List.set_cons_zero, List.set_cons_succ]
    refine wpAnyH_take (i := 4) (v := .agg tb.toArray) rfl (by kernel_rfl) (by kernel_rfl) (by kernel_rfl) (fun _ _ _ h => h) (Or.inl ⟨by rfl, fun w' hw' => by exact exec_load rfl rfl (run_loadAt_mid w' (ga + 1) 1 24 tb _ (SG.out w' hw').2 hu24 rfl lb)⟩) hHeld ?_
    try simp only [Act.put, List.getElem_toArray, List.getElem_cons_succ, List.getElem_cons_zero, List.setIfInBounds_toArray, List.set_cons_zero, List.set_cons_succ]
    refine wpAnyH_ready (rs := [2]) (by kernel_rfl) (by simp) ?_
    refine AllReadyH.cons rfl (fun K hK => ?_) AllReadyH.nil
    go_simp
    refine (t1 _).out.mono ?_
    rintro e w6 ⟨rfl, hB6⟩
    have hC6 : Lay W w6 := hHeld.trans hB6
    clear hB6
    refine hK.out _ _ hC6 (fun hHeld => ?_)
    clear hK K
    try simp only [Act.put, List.getElem_toArray, List.getElem_cons_succ, List.getElem_cons_zero, List.setIfInBounds_toArray, List.set_cons_zero, List.set_cons_succ]
    refine wpAnyH_ready (rs := [5]) (by kernel_rfl) (by simp) ?_
    refine AllReadyH.cons rfl (fun K hK => ?_) AllReadyH.nil
    go_simp
    refine (t2 _).out.mono ?_
    rintro e w7 ⟨rfl, hB7⟩
    have hC7 : Lay W w7 := hHeld.trans hB7
    clear hB7
    refine hK.out _ _ hC7 (fun hHeld => ?_)
    clear hK K
    try simp only [Act.put, List.getElem_toArray, List.getElem_cons_succ, List.getElem_cons_zero, List.setIfInBounds_toArray, List.set_cons_zero, List.set_cons_succ]
    refine wpAnyH_take (i := 6) (v := .bool (decide (cmpL a.2 b.2 < 0))) rfl (by kernel_rfl) (by kernel_rfl) (by kernel_rfl) (fun _ _ _ h => h) (Or.inl ⟨by rfl, fun w' hw' => by exact exec_lss rfl rfl rfl HA.out HB.out w'⟩) hHeld ?_
    try simp only [Act.put, List.getElem_toArray, List.getElem_cons_succ, List.getElem_cons_zero, List.setIfInBounds_toArray, List.set_cons_zero, List.set_cons_succ]
    refine wpAnyH_take (i := 7) (v := .bool (decide (cmpL a.2 b.2 < 0))) rfl (by kernel_rfl) (by kernel_rfl) (by kernel_rfl) (fun _ _ _ h => h) (Or.inl ⟨by rfl, fun w' hw' => by go_simp⟩) hHeld ?_
    try simp only [Act.put, List.getElem_toArray, List.getElem_cons_succ, List.getElem_cons_zero, List.setIfInBounds_toArray, List.set_cons_zero, List.set_cons_succ]
    refine wpAnyH_done (by kernel_rfl) ?_ _
    go_wp2_with fail
    go_ret
    exact ⟨rfl, HL.out.trans hHeld⟩
  · have e1 := lessK_ne he
    have hne : (a.1 != b.1) = true := by simp [he]
    have E1 := Lib.hid e1
    rw [e1]
    have HWq := Lib.hid hW
    clear e1 he ha hb ra rb hW hga
    go_enter Try.func34, Try.ntmps34
    go_wp2_with fail
    rw [← HWq.out]
    go_ret
    exact ⟨rfl, HL.out⟩
end Go.Proofs.Ythjgmnafbikihaa
