/-
  Fetch, the document's answer: Has.
-/
import Derived.Test.YthjgmnafbikihaaRc
set_option linter.unusedVariables false
set_option linter.unusedSimpArgs false
namespace Go.Proofs.Ythjgmnafbikihaa
open Go.RowKit Go.Maps Go.Sort

def tv (base most budget : Int) (v : Value) : Value := .agg #[.int .i64 base, .int .i64 most, .int .i64 budget, v]
theorem take_snoc {E : En} {i : Nat} (h : i < E.length) : E.take (i + 1) = E.take i ++ [E.getD i default] := by
  rw [List.take_add_one, List.getD, List.getElem?_eq_getElem h]; rfl
theorem not_take {E : En} {i : Nat} {x : WS} (h : i < E.length) (hx : x ∉ keysE (E.take i)) (hy : (E.getD i default).1 ≠ x) : x ∉ keysE (E.take (i + 1)) := by
  rw [take_snoc h]
  simp only [keysE, List.map_append, List.map_cons, List.map_nil, List.mem_append, List.mem_singleton, not_or] at hx ⊢
  exact ⟨hx, fun e => hy e.symm⟩
theorem is_take {E : En} {i : Nat} {x : WS} (h : i < E.length) (hy : (E.getD i default).1 = x) : (lk E x).isSome = true := by
  rw [lk_mem, ← hy, List.getD, List.getElem?_eq_getElem h]
  exact List.mem_map.2 ⟨_, List.getElem_mem h, rfl⟩
theorem none_take {E : En} {n : Nat} {x : WS} (h : E.length = n) (hx : x ∉ keysE (E.take n)) : (lk E x).isSome = false := by
  rw [List.take_of_length_le (by omega)] at hx
  rw [lk_none hx]; rfl
set_option maxRecDepth 100000 in
set_option maxHeartbeats 1000000 in
theorem rhas_any (base most budget : Int) (A : Option Addr) (n c m0 : Nat) (E : En) (x : WS) (w : World) (h : w.ownsRow m0 78 68 (.slice A n c) n (qrow E)) (hn : E.length = n) (hm : n ≤ 100000) :
    Calls Try.prog 21 #[tv base most budget (.slice A n c), kv (oldK x), kv (nowK x)] w fun e w' => e = .returned (.bool (lk E x).isSome) ∧ Lay w w' := by
  obtain ⟨ol, hol⟩ : ∃ l, kcells (oldK x).1 = l := ⟨_, rfl⟩
  obtain ⟨nl, hnl⟩ : ∃ l, kcells (nowK x).1 = l := ⟨_, rfl⟩
  have kx : kv (oldK x) = .agg ol.toArray := by rw [← hol]; rfl
  have ky : kv (nowK x) = .agg nl.toArray := by rw [← hnl]; rfl
  have s1 := size26_ (oldK x)
  have s2 := size26_ (nowK x)
  rw [hol] at s1
  rw [hnl] at s2
  rw [kx, ky]
  have hl := (((Lay.refl w).alloc (.cells #[.int .i64 base, .int .i64 most, .int .i64 budget, .slice A n c] 48)).alloc (.cells ol.toArray 26)).alloc (.cells nl.toArray 26)
  have t0 := ((Blk.new w 48 #[.int .i64 base, .int .i64 most, .int .i64 budget, .slice A n c]).alloc (.cells ol.toArray 26)).alloc (.cells nl.toArray 26)
  have t1 := (Blk.new (w.alloc (.cells #[.int .i64 base, .int .i64 most, .int .i64 budget, .slice A n c] 48)) 26 ol.toArray).alloc (.cells nl.toArray 26)
  have t2 := Blk.new ((w.alloc (.cells #[.int .i64 base, .int .i64 most, .int .i64 budget, .slice A n c] 48)).alloc (.cells ol.toArray 26)) 26 nl.toArray
  rw [show (w.alloc (.cells #[.int .i64 base, .int .i64 most, .int .i64 budget, .slice A n c] 48)).heap.size = w.heap.size + 1 by simp] at t1
  rw [show ((w.alloc (.cells #[.int .i64 base, .int .i64 most, .int .i64 budget, .slice A n c] 48)).alloc (.cells ol.toArray 26)).heap.size = w.heap.size + 2 by simp] at t2
  obtain ⟨W, hW⟩ : ∃ W, W = ((w.alloc (.cells #[.int .i64 base, .int .i64 most, .int .i64 budget, .slice A n c] 48)).alloc (.cells ol.toArray 26)).alloc (.cells nl.toArray 26) := ⟨_, rfl⟩
  obtain ⟨ga, hga⟩ : ∃ ga, ga = w.heap.size := ⟨_, rfl⟩
  rw [← hW] at t0 t1 t2 hl
  rw [← hga] at t0 t1 t2
  have hr := h.kept (grown_below hl.below none) (own_ne fun k e => by cases e)
  have HR := Lib.hid hr
  have T0 := Lib.hid t0
  have T1 := Lib.hid t1
  have T2 := Lib.hid t2
  have HL := Lib.hid hl
  have HWq := Lib.hid hW
  have HGq := Lib.hid hga
  have KX := Lib.hid kx
  have KY := Lib.hid ky
  have S1 := Lib.hid s1
  have S2 := Lib.hid s2
  have HN := Lib.hid hn
  unfold tv
  clear h hr t0 t1 t2 hl hW hga kx ky s1 s2 hol hnl hn
  go_enter Try.func21, Try.ntmps21
  go_wp2_with fail
  rw [← HWq.out, ← HGq.out]
  clear HWq HGq
  go_loopw [7] (fun iv wr => ∃ i : Nat, i ≤ n ∧ iv = .int .i64 i ∧ x ∉ keysE (E.take i) ∧ Lay W wr)
    (fun iv _ => n - (intOf iv).toNat)
  case atStart => exact ⟨0, Nat.zero_le _, rfl, by simp [keysE], Lay.refl _⟩
  case round =>
    obtain ⟨i, hi, rfl, hx, hB⟩ := hrel
    have hcs : wr.cell? ⟨ga, 3, none⟩ = some (.slice A n c) := (T0.out.below hB.below T0.out.lt).cell 3
    by_cases hlt : i < n
    · obtain ⟨kb, rfl, hkb, hrq⟩ := qrow_at HR.out HN.out hlt
      obtain ⟨p, hp⟩ : ∃ p, E.getD i default = p := ⟨_, rfl⟩
      rw [hp] at hrq
      obtain ⟨q1, q2, _, _⟩ := q_parts hrq
      obtain ⟨oy, hoy⟩ : ∃ l, kcells (oldK p.1).1 = l := ⟨_, rfl⟩
      obtain ⟨ny, hny⟩ : ∃ l, kcells (nowK p.1).1 = l := ⟨_, rfl⟩
      have ky1 : kv (oldK p.1) = .agg oy.toArray := by rw [← hoy]; rfl
      have ky2 : kv (nowK p.1) = .agg ny.toArray := by rw [← hny]; rfl
      have s3 := size26_ (oldK p.1)
      have s4 := size26_ (nowK p.1)
      rw [hoy] at q1 s3
      rw [hny] at q2 s4
      have hu26 := Try.underlying26
      have SG : Hid (∀ w', Lay W w' → w'.cell? ⟨ga, 3, none⟩ = some (.slice (some ⟨kb, 0, none⟩) n c) ∧ w'.rangeAt kb (i * 68) oy ∧ w'.rangeAt kb (i * 68 + 33) ny ∧ w'.rangeAt (ga + 1) 0 ol ∧ w'.rangeAt (ga + 2) 0 nl) := fun w' hw' =>
        ⟨(T0.out.below hw'.below T0.out.lt).cell 3, range_below q1 hw'.below hkb, range_below q2 hw'.below hkb, by simpa using (T1.out.below hw'.below T1.out.lt).range, by simpa using (T2.out.below hw'.below T2.out.lt).range⟩
      have KP1 := Lib.hid ky1
      have KP2 := Lib.hid ky2
      have HX := Lib.hid hx
      have HP := Lib.hid hp
      have HB := Lib.hid hB
      have hiE : i < E.length := by rw [HN.out]; exact hlt
      clear hrq q1 q2 hoy hny ky1 ky2 hx hp hB hkb
      by_cases h1 : oldK p.1 = oldK x
      · have HQ := Lib.hid (show decide (oldK p.1 = oldK x) = true by simp [h1])
        by_cases h2 : nowK p.1 = nowK x
        · have HQ2 := Lib.hid (show decide (nowK p.1 = nowK x) = true by simp [h2])
          have HE := Lib.hid (is_take (x := x) hiE (by rw [HP.out]; exact ws_ext h1 h2))
          clear h1 h2
          go_wp2_with fail
          clear hcs
          refine wp_region_held_drew (S := (fun w' => Lay W w')) (by kernel_rfl) (HB.out.drew) (fun hHeld => ?_)
          refine wpAnyH_take (i := 0) (v := .pointer (some ⟨ga, 3, none⟩)) rfl (by kernel_rfl) (by kernel_rfl) (by kernel_rfl) (fun _ _ _ h => h) (Or.inl ⟨by rfl, fun w' hw' => by go_simp⟩) hHeld ?_
          try simp only [Act.put, List.getElem_toArray, List.getElem_cons_succ, List.getElem_cons_zero, List.setIfInBounds_toArray, List.set_cons_zero, List.set_cons_succ]
          refine wpAnyH_take (i := 1) (v := .slice (some ⟨kb, 0, none⟩) n c) rfl (by kernel_rfl) (by kernel_rfl) (by kernel_rfl) (fun _ _ _ h => h) (Or.inl ⟨by rfl, fun w' hw' => by have hc := (SG.out w' hw').1; go_simp⟩) hHeld ?_
          try simp only [Act.put, List.getElem_toArray, List.getElem_cons_succ, List.getElem_cons_zero, List.setIfInBounds_toArray, List.set_cons_zero, List.set_cons_succ]
          refine wpAnyH_take (i := 2) (v := .int .i64 i) rfl (by kernel_rfl) (by kernel_rfl) (by kernel_rfl) (fun _ _ _ h => h) (Or.inl ⟨by rfl, fun w' hw' => by go_simp⟩) hHeld ?_
          try simp only [Act.put, List.getElem_toArray, List.getElem_cons_succ, List.getElem_cons_zero, List.setIfInBounds_toArray, List.set_cons_zero, List.set_cons_succ]
          refine wpAnyH_take (i := 3) (v := .pointer (some ⟨kb, i * 68, none⟩)) rfl (by kernel_rfl) (by kernel_rfl) (by kernel_rfl) (fun _ _ _ h => h) (Or.inl ⟨by rfl, fun w' hw' => by go_simp⟩) hHeld ?_
          try simp only [Act.put, List.getElem_toArray, List.getElem_cons_succ, List.getElem_cons_zero, List.setIfInBounds_toArray, List.set_cons_zero, List.set_cons_succ]
          refine wpAnyH_take (i := 4) (v := .pointer (some ⟨kb, i * 68, none⟩)) rfl (by kernel_rfl) (by kernel_rfl) (by kernel_rfl) (fun _ _ _ h => h) (Or.inl ⟨by rfl, fun w' hw' => by go_simp⟩) hHeld ?_
          try simp only [Act.put, List.getElem_toArray, List.getElem_cons_succ, List.getElem_cons_zero, List.setIfInBounds_toArray, List.set_cons_zero, List.set_cons_succ]
          refine wpAnyH_take (i := 5) (v := .agg oy.toArray) rfl (by kernel_rfl) (by kernel_rfl) (by kernel_rfl) (fun _ _ _ h => h) (Or.inl ⟨by rfl, fun w' hw' => by exact exec_load rfl rfl (run_loadAt_mid w' kb (i * 68) 26 oy _ (SG.out w' hw').2.1 hu26 rfl s3)⟩) hHeld ?_
          try simp only [Act.put, List.getElem_toArray, List.getElem_cons_succ, List.getElem_cons_zero, List.setIfInBounds_toArray, List.set_cons_zero, List.set_cons_succ]
          refine wpAnyH_take (i := 6) (v := .agg ol.toArray) rfl (by kernel_rfl) (by kernel_rfl) (by kernel_rfl) (fun _ _ _ h => h) (Or.inl ⟨by rfl, fun w' hw' => by exact exec_load rfl rfl (run_loadAt_mid w' (ga + 1) 0 26 ol _ (SG.out w' hw').2.2.2.1 hu26 rfl S1.out)⟩) hHeld ?_
          try simp only [Act.put, List.getElem_toArray, List.getElem_cons_succ, List.getElem_cons_zero, List.setIfInBounds_toArray, List.set_cons_zero, List.set_cons_succ]
          refine wpAnyH_take (i := 7) (v := .bool true) rfl (by kernel_rfl) (by kernel_rfl) (by kernel_rfl) (fun _ _ _ h => h) (Or.inl ⟨by rfl, fun w' hw' => by exact exec_eqk rfl rfl rfl KP1.out KX.out true HQ.out w'⟩) hHeld ?_
          try simp only [Act.put, List.getElem_toArray, List.getElem_cons_succ, List.getElem_cons_zero, List.setIfInBounds_toArray, List.set_cons_zero, List.set_cons_succ]
          refine wpAnyH_take (i := 8) (v := .bool true) rfl (by kernel_rfl) (by kernel_rfl) (by kernel_rfl) (fun _ _ _ h => h) (Or.inl ⟨by rfl, fun w' hw' => by go_simp⟩) hHeld ?_
          try simp only [Act.put, List.getElem_toArray, List.getElem_cons_succ, List.getElem_cons_zero, List.setIfInBounds_toArray, List.set_cons_zero, List.set_cons_succ]
          refine wpAnyH_take (i := 9) (v := .pointer (some ⟨ga, 3, none⟩)) rfl (by kernel_rfl) (by kernel_rfl) (by kernel_rfl) (fun _ _ _ h => h) (Or.inl ⟨by rfl, fun w' hw' => by go_simp⟩) hHeld ?_
          try simp only [Act.put, List.getElem_toArray, List.getElem_cons_succ, List.getElem_cons_zero, List.setIfInBounds_toArray, List.set_cons_zero, List.set_cons_succ]
          refine wpAnyH_take (i := 10) (v := .slice (some ⟨kb, 0, none⟩) n c) rfl (by kernel_rfl) (by kernel_rfl) (by kernel_rfl) (fun _ _ _ h => h) (Or.inl ⟨by rfl, fun w' hw' => by have hc := (SG.out w' hw').1; go_simp⟩) hHeld ?_
          try simp only [Act.put, List.getElem_toArray, List.getElem_cons_succ, List.getElem_cons_zero, List.setIfInBounds_toArray, List.set_cons_zero, List.set_cons_succ]
          refine wpAnyH_take (i := 11) (v := .int .i64 i) rfl (by kernel_rfl) (by kernel_rfl) (by kernel_rfl) (fun _ _ _ h => h) (Or.inl ⟨by rfl, fun w' hw' => by go_simp⟩) hHeld ?_
          try simp only [Act.put, List.getElem_toArray, List.getElem_cons_succ, List.getElem_cons_zero, List.setIfInBounds_toArray, List.set_cons_zero, List.set_cons_succ]
          refine wpAnyH_take (i := 12) (v := .pointer (some ⟨kb, i * 68, none⟩)) rfl (by kernel_rfl) (by kernel_rfl) (by kernel_rfl) (fun _ _ _ h => h) (Or.inl ⟨by rfl, fun w' hw' => by go_simp⟩) hHeld ?_
          try simp only [Act.put, List.getElem_toArray, List.getElem_cons_succ, List.getElem_cons_zero, List.setIfInBounds_toArray, List.set_cons_zero, List.set_cons_succ]
          refine wpAnyH_take (i := 13) (v := .pointer (some ⟨kb, i * 68 + 33, none⟩)) rfl (by kernel_rfl) (by kernel_rfl) (by kernel_rfl) (fun _ _ _ h => h) (Or.inl ⟨by rfl, fun w' hw' => by go_simp⟩) hHeld ?_
          try simp only [Act.put, List.getElem_toArray, List.getElem_cons_succ, List.getElem_cons_zero, List.setIfInBounds_toArray, List.set_cons_zero, List.set_cons_succ]
          refine wpAnyH_take (i := 14) (v := .agg ny.toArray) rfl (by kernel_rfl) (by kernel_rfl) (by kernel_rfl) (fun _ _ _ h => h) (Or.inl ⟨by rfl, fun w' hw' => by exact exec_load rfl rfl (run_loadAt_mid w' kb (i * 68 + 33) 26 ny _ (SG.out w' hw').2.2.1 hu26 rfl s4)⟩) hHeld ?_
          try simp only [Act.put, List.getElem_toArray, List.getElem_cons_succ, List.getElem_cons_zero, List.setIfInBounds_toArray, List.set_cons_zero, List.set_cons_succ]
          refine wpAnyH_take (i := 15) (v := .agg nl.toArray) rfl (by kernel_rfl) (by kernel_rfl) (by kernel_rfl) (fun _ _ _ h => h) (Or.inl ⟨by rfl, fun w' hw' => by exact exec_load rfl rfl (run_loadAt_mid w' (ga + 2) 0 26 nl _ (SG.out w' hw').2.2.2.2 hu26 rfl S2.out)⟩) hHeld ?_
          try simp only [Act.put, List.getElem_toArray, List.getElem_cons_succ, List.getElem_cons_zero, List.setIfInBounds_toArray, List.set_cons_zero, List.set_cons_succ]
          refine wpAnyH_take (i := 16) (v := .bool true) rfl (by kernel_rfl) (by kernel_rfl) (by kernel_rfl) (fun _ _ _ h => h) (Or.inl ⟨by rfl, fun w' hw' => by exact exec_eqk rfl rfl rfl KP2.out KY.out true HQ2.out w'⟩) hHeld ?_
          try simp only [Act.put, List.getElem_toArray, List.getElem_cons_succ, List.getElem_cons_zero, List.setIfInBounds_toArray, List.set_cons_zero, List.set_cons_succ]
          refine wpAnyH_take (i := 17) (v := .bool true) rfl (by kernel_rfl) (by kernel_rfl) (by kernel_rfl) (fun _ _ _ h => h) (Or.inl ⟨by rfl, fun w' hw' => by go_simp⟩) hHeld ?_
          try simp only [Act.put, List.getElem_toArray, List.getElem_cons_succ, List.getElem_cons_zero, List.setIfInBounds_toArray, List.set_cons_zero, List.set_cons_succ]
          refine wpAnyH_done (by kernel_rfl) ?_ _
          go_wp2_with fail
          go_ret
          exact ⟨by rw [HE.out]; rfl, HL.out.trans hHeld⟩
        · have HQ2 := Lib.hid (show decide (nowK p.1 = nowK x) = false by simp [h2])
          have HX2 := Lib.hid (not_take hiE HX.out (by rw [HP.out]; exact fun e => h2 (congrArg nowK e)))
          clear h1 h2
          go_wp2_with fail
          clear hcs
          refine wp_region_held_drew (S := (fun w' => Lay W w')) (by kernel_rfl) (HB.out.drew) (fun hHeld => ?_)
          refine wpAnyH_take (i := 0) (v := .pointer (some ⟨ga, 3, none⟩)) rfl (by kernel_rfl) (by kernel_rfl) (by kernel_rfl) (fun _ _ _ h => h) (Or.inl ⟨by rfl, fun w' hw' => by go_simp⟩) hHeld ?_
          try simp only [Act.put, List.getElem_toArray, List.getElem_cons_succ, List.getElem_cons_zero, List.setIfInBounds_toArray, List.set_cons_zero, List.set_cons_succ]
          refine wpAnyH_take (i := 1) (v := .slice (some ⟨kb, 0, none⟩) n c) rfl (by kernel_rfl) (by kernel_rfl) (by kernel_rfl) (fun _ _ _ h => h) (Or.inl ⟨by rfl, fun w' hw' => by have hc := (SG.out w' hw').1; go_simp⟩) hHeld ?_
          try simp only [Act.put, List.getElem_toArray, List.getElem_cons_succ, List.getElem_cons_zero, List.setIfInBounds_toArray, List.set_cons_zero, List.set_cons_succ]
          refine wpAnyH_take (i := 2) (v := .int .i64 i) rfl (by kernel_rfl) (by kernel_rfl) (by kernel_rfl) (fun _ _ _ h => h) (Or.inl ⟨by rfl, fun w' hw' => by go_simp⟩) hHeld ?_
          try simp only [Act.put, List.getElem_toArray, List.getElem_cons_succ, List.getElem_cons_zero, List.setIfInBounds_toArray, List.set_cons_zero, List.set_cons_succ]
          refine wpAnyH_take (i := 3) (v := .pointer (some ⟨kb, i * 68, none⟩)) rfl (by kernel_rfl) (by kernel_rfl) (by kernel_rfl) (fun _ _ _ h => h) (Or.inl ⟨by rfl, fun w' hw' => by go_simp⟩) hHeld ?_
          try simp only [Act.put, List.getElem_toArray, List.getElem_cons_succ, List.getElem_cons_zero, List.setIfInBounds_toArray, List.set_cons_zero, List.set_cons_succ]
          refine wpAnyH_take (i := 4) (v := .pointer (some ⟨kb, i * 68, none⟩)) rfl (by kernel_rfl) (by kernel_rfl) (by kernel_rfl) (fun _ _ _ h => h) (Or.inl ⟨by rfl, fun w' hw' => by go_simp⟩) hHeld ?_
          try simp only [Act.put, List.getElem_toArray, List.getElem_cons_succ, List.getElem_cons_zero, List.setIfInBounds_toArray, List.set_cons_zero, List.set_cons_succ]
          refine wpAnyH_take (i := 5) (v := .agg oy.toArray) rfl (by kernel_rfl) (by kernel_rfl) (by kernel_rfl) (fun _ _ _ h => h) (Or.inl ⟨by rfl, fun w' hw' => by exact exec_load rfl rfl (run_loadAt_mid w' kb (i * 68) 26 oy _ (SG.out w' hw').2.1 hu26 rfl s3)⟩) hHeld ?_
          try simp only [Act.put, List.getElem_toArray, List.getElem_cons_succ, List.getElem_cons_zero, List.setIfInBounds_toArray, List.set_cons_zero, List.set_cons_succ]
          refine wpAnyH_take (i := 6) (v := .agg ol.toArray) rfl (by kernel_rfl) (by kernel_rfl) (by kernel_rfl) (fun _ _ _ h => h) (Or.inl ⟨by rfl, fun w' hw' => by exact exec_load rfl rfl (run_loadAt_mid w' (ga + 1) 0 26 ol _ (SG.out w' hw').2.2.2.1 hu26 rfl S1.out)⟩) hHeld ?_
          try simp only [Act.put, List.getElem_toArray, List.getElem_cons_succ, List.getElem_cons_zero, List.setIfInBounds_toArray, List.set_cons_zero, List.set_cons_succ]
          refine wpAnyH_take (i := 7) (v := .bool true) rfl (by kernel_rfl) (by kernel_rfl) (by kernel_rfl) (fun _ _ _ h => h) (Or.inl ⟨by rfl, fun w' hw' => by exact exec_eqk rfl rfl rfl KP1.out KX.out true HQ.out w'⟩) hHeld ?_
          try simp only [Act.put, List.getElem_toArray, List.getElem_cons_succ, List.getElem_cons_zero, List.setIfInBounds_toArray, List.set_cons_zero, List.set_cons_succ]
          refine wpAnyH_take (i := 8) (v := .bool true) rfl (by kernel_rfl) (by kernel_rfl) (by kernel_rfl) (fun _ _ _ h => h) (Or.inl ⟨by rfl, fun w' hw' => by go_simp⟩) hHeld ?_
          try simp only [Act.put, List.getElem_toArray, List.getElem_cons_succ, List.getElem_cons_zero, List.setIfInBounds_toArray, List.set_cons_zero, List.set_cons_succ]
          refine wpAnyH_take (i := 9) (v := .pointer (some ⟨ga, 3, none⟩)) rfl (by kernel_rfl) (by kernel_rfl) (by kernel_rfl) (fun _ _ _ h => h) (Or.inl ⟨by rfl, fun w' hw' => by go_simp⟩) hHeld ?_
          try simp only [Act.put, List.getElem_toArray, List.getElem_cons_succ, List.getElem_cons_zero, List.setIfInBounds_toArray, List.set_cons_zero, List.set_cons_succ]
          refine wpAnyH_take (i := 10) (v := .slice (some ⟨kb, 0, none⟩) n c) rfl (by kernel_rfl) (by kernel_rfl) (by kernel_rfl) (fun _ _ _ h => h) (Or.inl ⟨by rfl, fun w' hw' => by have hc := (SG.out w' hw').1; go_simp⟩) hHeld ?_
          try simp only [Act.put, List.getElem_toArray, List.getElem_cons_succ, List.getElem_cons_zero, List.setIfInBounds_toArray, List.set_cons_zero, List.set_cons_succ]
          refine wpAnyH_take (i := 11) (v := .int .i64 i) rfl (by kernel_rfl) (by kernel_rfl) (by kernel_rfl) (fun _ _ _ h => h) (Or.inl ⟨by rfl, fun w' hw' => by go_simp⟩) hHeld ?_
          try simp only [Act.put, List.getElem_toArray, List.getElem_cons_succ, List.getElem_cons_zero, List.setIfInBounds_toArray, List.set_cons_zero, List.set_cons_succ]
          refine wpAnyH_take (i := 12) (v := .pointer (some ⟨kb, i * 68, none⟩)) rfl (by kernel_rfl) (by kernel_rfl) (by kernel_rfl) (fun _ _ _ h => h) (Or.inl ⟨by rfl, fun w' hw' => by go_simp⟩) hHeld ?_
          try simp only [Act.put, List.getElem_toArray, List.getElem_cons_succ, List.getElem_cons_zero, List.setIfInBounds_toArray, List.set_cons_zero, List.set_cons_succ]
          refine wpAnyH_take (i := 13) (v := .pointer (some ⟨kb, i * 68 + 33, none⟩)) rfl (by kernel_rfl) (by kernel_rfl) (by kernel_rfl) (fun _ _ _ h => h) (Or.inl ⟨by rfl, fun w' hw' => by go_simp⟩) hHeld ?_
          try simp only [Act.put, List.getElem_toArray, List.getElem_cons_succ, List.getElem_cons_zero, List.setIfInBounds_toArray, List.set_cons_zero, List.set_cons_succ]
          refine wpAnyH_take (i := 14) (v := .agg ny.toArray) rfl (by kernel_rfl) (by kernel_rfl) (by kernel_rfl) (fun _ _ _ h => h) (Or.inl ⟨by rfl, fun w' hw' => by exact exec_load rfl rfl (run_loadAt_mid w' kb (i * 68 + 33) 26 ny _ (SG.out w' hw').2.2.1 hu26 rfl s4)⟩) hHeld ?_
          try simp only [Act.put, List.getElem_toArray, List.getElem_cons_succ, List.getElem_cons_zero, List.setIfInBounds_toArray, List.set_cons_zero, List.set_cons_succ]
          refine wpAnyH_take (i := 15) (v := .agg nl.toArray) rfl (by kernel_rfl) (by kernel_rfl) (by kernel_rfl) (fun _ _ _ h => h) (Or.inl ⟨by rfl, fun w' hw' => by exact exec_load rfl rfl (run_loadAt_mid w' (ga + 2) 0 26 nl _ (SG.out w' hw').2.2.2.2 hu26 rfl S2.out)⟩) hHeld ?_
          try simp only [Act.put, List.getElem_toArray, List.getElem_cons_succ, List.getElem_cons_zero, List.setIfInBounds_toArray, List.set_cons_zero, List.set_cons_succ]
          refine wpAnyH_take (i := 16) (v := .bool false) rfl (by kernel_rfl) (by kernel_rfl) (by kernel_rfl) (fun _ _ _ h => h) (Or.inl ⟨by rfl, fun w' hw' => by exact exec_eqk rfl rfl rfl KP2.out KY.out false HQ2.out w'⟩) hHeld ?_
          try simp only [Act.put, List.getElem_toArray, List.getElem_cons_succ, List.getElem_cons_zero, List.setIfInBounds_toArray, List.set_cons_zero, List.set_cons_succ]
          refine wpAnyH_take (i := 17) (v := .bool false) rfl (by kernel_rfl) (by kernel_rfl) (by kernel_rfl) (fun _ _ _ h => h) (Or.inl ⟨by rfl, fun w' hw' => by go_simp⟩) hHeld ?_
          try simp only [Act.put, List.getElem_toArray, List.getElem_cons_succ, List.getElem_cons_zero, List.setIfInBounds_toArray, List.set_cons_zero, List.set_cons_succ]
          refine wpAnyH_done (by kernel_rfl) ?_ _
          go_wp2_with fail
          go_roundw
          case rel => exact ⟨i + 1, by omega, by go_num, HX2.out, hHeld⟩
          case measure => first | (simp [intOf]; done) | (simp [intOf]; omega)
      · have HQ := Lib.hid (show decide (oldK p.1 = oldK x) = false by simp [h1])
        have HX2 := Lib.hid (not_take hiE HX.out (by rw [HP.out]; exact fun e => h1 (congrArg oldK e)))
        clear h1
        go_wp2_with fail
        clear hcs
        refine wp_region_held_drew (S := (fun w' => Lay W w')) (by kernel_rfl) (HB.out.drew) (fun hHeld => ?_)
        refine wpAnyH_take (i := 0) (v := .pointer (some ⟨ga, 3, none⟩)) rfl (by kernel_rfl) (by kernel_rfl) (by kernel_rfl) (fun _ _ _ h => h) (Or.inl ⟨by rfl, fun w' hw' => by go_simp⟩) hHeld ?_
        try simp only [Act.put, List.getElem_toArray, List.getElem_cons_succ, List.getElem_cons_zero, List.setIfInBounds_toArray, List.set_cons_zero, List.set_cons_succ]
        refine wpAnyH_take (i := 1) (v := .slice (some ⟨kb, 0, none⟩) n c) rfl (by kernel_rfl) (by kernel_rfl) (by kernel_rfl) (fun _ _ _ h => h) (Or.inl ⟨by rfl, fun w' hw' => by have hc := (SG.out w' hw').1; go_simp⟩) hHeld ?_
        try simp only [Act.put, List.getElem_toArray, List.getElem_cons_succ, List.getElem_cons_zero, List.setIfInBounds_toArray, List.set_cons_zero, List.set_cons_succ]
        refine wpAnyH_take (i := 2) (v := .int .i64 i) rfl (by kernel_rfl) (by kernel_rfl) (by kernel_rfl) (fun _ _ _ h => h) (Or.inl ⟨by rfl, fun w' hw' => by go_simp⟩) hHeld ?_
        try simp only [Act.put, List.getElem_toArray, List.getElem_cons_succ, List.getElem_cons_zero, List.setIfInBounds_toArray, List.set_cons_zero, List.set_cons_succ]
        refine wpAnyH_take (i := 3) (v := .pointer (some ⟨kb, i * 68, none⟩)) rfl (by kernel_rfl) (by kernel_rfl) (by kernel_rfl) (fun _ _ _ h => h) (Or.inl ⟨by rfl, fun w' hw' => by go_simp⟩) hHeld ?_
        try simp only [Act.put, List.getElem_toArray, List.getElem_cons_succ, List.getElem_cons_zero, List.setIfInBounds_toArray, List.set_cons_zero, List.set_cons_succ]
        refine wpAnyH_take (i := 4) (v := .pointer (some ⟨kb, i * 68, none⟩)) rfl (by kernel_rfl) (by kernel_rfl) (by kernel_rfl) (fun _ _ _ h => h) (Or.inl ⟨by rfl, fun w' hw' => by go_simp⟩) hHeld ?_
        try simp only [Act.put, List.getElem_toArray, List.getElem_cons_succ, List.getElem_cons_zero, List.setIfInBounds_toArray, List.set_cons_zero, List.set_cons_succ]
        refine wpAnyH_take (i := 5) (v := .agg oy.toArray) rfl (by kernel_rfl) (by kernel_rfl) (by kernel_rfl) (fun _ _ _ h => h) (Or.inl ⟨by rfl, fun w' hw' => by exact exec_load rfl rfl (run_loadAt_mid w' kb (i * 68) 26 oy _ (SG.out w' hw').2.1 hu26 rfl s3)⟩) hHeld ?_
        try simp only [Act.put, List.getElem_toArray, List.getElem_cons_succ, List.getElem_cons_zero, List.setIfInBounds_toArray, List.set_cons_zero, List.set_cons_succ]
        refine wpAnyH_take (i := 6) (v := .agg ol.toArray) rfl (by kernel_rfl) (by kernel_rfl) (by kernel_rfl) (fun _ _ _ h => h) (Or.inl ⟨by rfl, fun w' hw' => by exact exec_load rfl rfl (run_loadAt_mid w' (ga + 1) 0 26 ol _ (SG.out w' hw').2.2.2.1 hu26 rfl S1.out)⟩) hHeld ?_
        try simp only [Act.put, List.getElem_toArray, List.getElem_cons_succ, List.getElem_cons_zero, List.setIfInBounds_toArray, List.set_cons_zero, List.set_cons_succ]
        refine wpAnyH_take (i := 7) (v := .bool false) rfl (by kernel_rfl) (by kernel_rfl) (by kernel_rfl) (fun _ _ _ h => h) (Or.inl ⟨by rfl, fun w' hw' => by exact exec_eqk rfl rfl rfl KP1.out KX.out false HQ.out w'⟩) hHeld ?_
        try simp only [Act.put, List.getElem_toArray, List.getElem_cons_succ, List.getElem_cons_zero, List.setIfInBounds_toArray, List.set_cons_zero, List.set_cons_succ]
        refine wpAnyH_take (i := 8) (v := .bool false) rfl (by kernel_rfl) (by kernel_rfl) (by kernel_rfl) (fun _ _ _ h => h) (Or.inl ⟨by rfl, fun w' hw' => by go_simp⟩) hHeld ?_
        try simp only [Act.put, List.getElem_toArray, List.getElem_cons_succ, List.getElem_cons_zero, List.setIfInBounds_toArray, List.set_cons_zero, List.set_cons_succ]
        refine wpAnyH_take (i := 9) (v := undef) rfl (by kernel_rfl) (by kernel_rfl) (by kernel_rfl) (fun _ _ _ h => h) (Or.inr ⟨by rfl, rfl⟩) hHeld ?_
        try simp only [Act.put, List.getElem_toArray, List.getElem_cons_succ, List.getElem_cons_zero, List.setIfInBounds_toArray, List.set_cons_zero, List.set_cons_succ]
        refine wpAnyH_take (i := 10) (v := undef) rfl (by kernel_rfl) (by kernel_rfl) (by kernel_rfl) (fun _ _ _ h => h) (Or.inr ⟨by rfl, rfl⟩) hHeld ?_
        try simp only [Act.put, List.getElem_toArray, List.getElem_cons_succ, List.getElem_cons_zero, List.setIfInBounds_toArray, List.set_cons_zero, List.set_cons_succ]
        refine wpAnyH_take (i := 11) (v := undef) rfl (by kernel_rfl) (by kernel_rfl) (by kernel_rfl) (fun _ _ _ h => h) (Or.inr ⟨by rfl, rfl⟩) hHeld ?_
        try simp only [Act.put, List.getElem_toArray, List.getElem_cons_succ, List.getElem_cons_zero, List.setIfInBounds_toArray, List.set_cons_zero, List.set_cons_succ]
        refine wpAnyH_take (i := 12) (v := undef) rfl (by kernel_rfl) (by kernel_rfl) (by kernel_rfl) (fun _ _ _ h => h) (Or.inr ⟨by rfl, rfl⟩) hHeld ?_
        try simp only [Act.put, List.getElem_toArray, List.getElem_cons_succ, List.getElem_cons_zero, List.setIfInBounds_toArray, List.set_cons_zero, List.set_cons_succ]
        refine wpAnyH_take (i := 13) (v := undef) rfl (by kernel_rfl) (by kernel_rfl) (by kernel_rfl) (fun _ _ _ h => h) (Or.inr ⟨by rfl, rfl⟩) hHeld ?_
        try simp only [Act.put, List.getElem_toArray, List.getElem_cons_succ, List.getElem_cons_zero, List.setIfInBounds_toArray, List.set_cons_zero, List.set_cons_succ]
        refine wpAnyH_take (i := 14) (v := undef) rfl (by kernel_rfl) (by kernel_rfl) (by kernel_rfl) (fun _ _ _ h => h) (Or.inr ⟨by rfl, rfl⟩) hHeld ?_
        try simp only [Act.put, List.getElem_toArray, List.getElem_cons_succ, List.getElem_cons_zero, List.setIfInBounds_toArray, List.set_cons_zero, List.set_cons_succ]
        refine wpAnyH_take (i := 15) (v := undef) rfl (by kernel_rfl) (by kernel_rfl) (by kernel_rfl) (fun _ _ _ h => h) (Or.inr ⟨by rfl, rfl⟩) hHeld ?_
        try simp only [Act.put, List.getElem_toArray, List.getElem_cons_succ, List.getElem_cons_zero, List.setIfInBounds_toArray, List.set_cons_zero, List.set_cons_succ]
        refine wpAnyH_take (i := 16) (v := undef) rfl (by kernel_rfl) (by kernel_rfl) (by kernel_rfl) (fun _ _ _ h => h) (Or.inr ⟨by rfl, rfl⟩) hHeld ?_
        try simp only [Act.put, List.getElem_toArray, List.getElem_cons_succ, List.getElem_cons_zero, List.setIfInBounds_toArray, List.set_cons_zero, List.set_cons_succ]
        refine wpAnyH_take (i := 17) (v := .bool false) rfl (by kernel_rfl) (by kernel_rfl) (by kernel_rfl) (fun _ _ _ h => h) (Or.inl ⟨by rfl, fun w' hw' => by go_simp⟩) hHeld ?_
        try simp only [Act.put, List.getElem_toArray, List.getElem_cons_succ, List.getElem_cons_zero, List.setIfInBounds_toArray, List.set_cons_zero, List.set_cons_succ]
        refine wpAnyH_done (by kernel_rfl) ?_ _
        go_wp2_with fail
        go_roundw
        case rel => exact ⟨i + 1, by omega, by go_num, HX2.out, hHeld⟩
        case measure => first | (simp [intOf]; done) | (simp [intOf]; omega)
    · obtain rfl : i = n := by omega
      have HE := Lib.hid (none_take HN.out hx)
      have HB := Lib.hid hB
      clear hx hB
      go_wp2_with fail
      go_ret
      exact ⟨by rw [HE.out]; rfl, HL.out.trans HB.out⟩
end Go.Proofs.Ythjgmnafbikihaa
