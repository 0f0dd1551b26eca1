/-
  Fetch, the document's answer: Done.
-/
import Derived.Test.YthjgmnafbikihaaRh
set_option linter.unusedVariables false
set_option linter.unusedSimpArgs false
namespace Go.Proofs.Ythjgmnafbikihaa
open Go.RowKit Go.Maps Go.Sort

theorem del_keep {x : WS} {E : En} {i : Nat} (hi : i < E.length) (h : (E.getD i default).1 ≠ x) : del x (E.take (i + 1)) = del x (E.take i) ++ [E.getD i default] := by
  rw [take_snoc hi]
  generalize E.getD i default = p at h
  simp [del, h]
theorem del_skip {x : WS} {E : En} {i : Nat} (hi : i < E.length) (h : (E.getD i default).1 = x) : del x (E.take (i + 1)) = del x (E.take i) := by
  rw [take_snoc hi]
  generalize E.getD i default = p at h
  simp [del, h]
theorem dn_del {x : WS} {E : En} (h : Srt E) : dnE E x = del x E := by
  unfold dnE
  cases hq : (lk E x).isSome with
  | true => rfl
  | false =>
    have h1 : x ∉ keysE E := fun hm => by rw [lk_mem.2 hm] at hq; cases hq
    show E = del x E
    refine (List.filter_eq_self.2 fun p hp => ?_).symm
    have : p.1 ≠ x := fun e => h1 (by rw [← e]; exact List.mem_map.2 ⟨p, hp, rfl⟩)
    simp [this]
theorem del_less {x : WS} {E : En} (h : Srt E) : decide ((del x E).length < E.length) = (lk E x).isSome := by
  have := del_length (x := x) h
  cases hq : (lk E x).isSome with
  | true => rw [hq] at this; simp at this ⊢; omega
  | false => rw [hq] at this; simp at this ⊢; omega
set_option maxRecDepth 100000 in
set_option maxHeartbeats 2000000 in
theorem rdone_any (base most budget : Int) (A : Option Addr) (n c m0 : Nat) (E : En) (x : WS) (w : World) (h : w.ownsRow m0 78 68 (.slice A n c) n (qrow E)) (hn : E.length = n) (hm : n ≤ 100000) (hs : Srt E) :
    Calls Try.prog 18 #[tv base most budget (.slice A n c), kv (oldK x), kv (nowK x)] w fun e w' => ∃ A' c' m', e = .returned (.tuple #[tv base most budget (.slice A' (dnE E x).length c'), .bool (lk E x).isSome]) ∧
      w'.ownsRow m' 78 68 (.slice A' (dnE E x).length c') (dnE E x).length (qrow (dnE E x)) ∧ Below w.heap.size w w' := by
  subst hn
  obtain ⟨ol, hol⟩ : ∃ l, kcells (oldK x).1 = l := ⟨_, rfl⟩
  obtain ⟨nl, hnl⟩ : ∃ l, kcells (nowK x).1 = l := ⟨_, rfl⟩
  have kx : kv (oldK x) = .agg ol.toArray := by rw [← hol]; rfl
  have ky : kv (nowK x) = .agg nl.toArray := by rw [← hnl]; rfl
  have s1 := size26_ (oldK x)
  have s2 := size26_ (nowK x)
  rw [hol] at s1
  rw [hnl] at s2
  rw [kx, ky]
  have hw1 := ((Below.refl w.heap.size w).alloc (Nat.le_refl _) (.cells (tcells base most budget (.slice A E.length c)) 48))
  obtain ⟨a1, ha1⟩ : ∃ a, a = w.alloc (.cells (tcells base most budget (.slice A E.length c)) 48) := ⟨_, rfl⟩
  obtain ⟨a2, ha2⟩ : ∃ a, a = a1.alloc (.cells ol.toArray 26) := ⟨_, rfl⟩
  obtain ⟨a3, ha3⟩ : ∃ a, a = a2.alloc (.cells nl.toArray 26) := ⟨_, rfl⟩
  obtain ⟨W, hW⟩ : ∃ a, a = a3.alloc (.cells (tcells 0 0 0 (.slice none 0 0)) 48) := ⟨_, rfl⟩
  obtain ⟨ga, hga⟩ : ∃ ga, ga = w.heap.size := ⟨_, rfl⟩
  have z1 : a1.heap.size = ga + 1 := by rw [ha1, hga]; simp
  have z2 : a2.heap.size = ga + 2 := by rw [ha2]; simp [z1]
  have z3 : a3.heap.size = ga + 3 := by rw [ha3]; simp [z2]
  have z4 : W.heap.size = ga + 4 := by rw [hW]; simp [z3]
  have u0 : Blk a1 ga 48 (tcells base most budget (.slice A E.length c)) := by rw [ha1, hga]; exact Blk.new w 48 _
  have u1 : Blk a2 (ga + 1) 26 ol.toArray := by rw [ha2, ← z1]; exact Blk.new a1 26 _
  have u2 : Blk a3 (ga + 2) 26 nl.toArray := by rw [ha3, ← z2]; exact Blk.new a2 26 _
  have t3 : Blk W (ga + 3) 48 (tcells 0 0 0 (.slice none 0 0)) := by rw [hW, ← z3]; exact Blk.new a3 48 _
  have t0 : Blk W ga 48 (tcells base most budget (.slice A E.length c)) := by rw [hW, ha3, ha2]; exact ((u0.alloc _).alloc _).alloc _
  have t1 : Blk W (ga + 1) 26 ol.toArray := by rw [hW, ha3]; exact (u1.alloc _).alloc _
  have t2 : Blk W (ga + 2) 26 nl.toArray := by rw [hW]; exact u2.alloc _
  have hl : Below w.heap.size w W := by
    rw [hW, ha3, ha2, ha1]
    refine Below.alloc (Below.alloc (Below.alloc hw1 ?_ _) ?_ _) ?_ _ <;> simp <;> omega
  have hr := h.kept (grown_below hl none) (own_ne fun k e => by cases e)
  have ew : W = (((w.alloc (.cells #[.int .i64 base, .int .i64 most, .int .i64 budget, .slice A E.length c] 48)).alloc (.cells ol.toArray 26)).alloc (.cells nl.toArray 26)).alloc (.cells #[.int .i64 0, .int .i64 0, .int .i64 0, .slice none 0 0] 48) := by
    rw [hW, ha3, ha2, ha1]; rfl
  have HR := Lib.hid hr
  have T0 := Lib.hid t0
  have T1 := Lib.hid t1
  have T2 := Lib.hid t2
  have T3 := Lib.hid t3
  have HL := Lib.hid hl
  have HWq := Lib.hid ew
  have HGq := Lib.hid hga
  have HOL := Lib.hid hol
  have HNL := Lib.hid hnl
  have S1 := Lib.hid s1
  have S2 := Lib.hid s2
  unfold tv
  clear h hr u0 u1 u2 t0 t1 t2 t3 hl hw1 hW ha1 ha2 ha3 z1 z2 z3 z4 ew hga kx ky s1 s2 hol hnl a1 a2 a3
  have HS := Lib.hid hs
  have HEQ := Lib.hid (dn_del (x := x) hs)
  have HLS := Lib.hid (del_less (x := x) hs)
  rw [HEQ.out]
  have KX := Lib.hid (show kv (oldK x) = .agg ol.toArray by rw [← HOL.out]; rfl)
  have KY := Lib.hid (show kv (nowK x) = .agg nl.toArray by rw [← HNL.out]; rfl)
  clear hs HOL HNL
  go_enter Try.func18, Try.ntmps18
  go_wp2_with fail
  rw [← HWq.out, ← HGq.out]
  clear HWq
  have hgs : ga + 3 < W.heap.size := T3.out.lt
  go_loopw [8, 9] (fun lv iv wr => ∃ i : Nat, i ≤ E.length ∧ iv = .int .i64 i ∧ QR W wr lv (del x (E.take i)))
    (fun _ iv _ => E.length - (intOf iv).toNat)
  case atStart => exact ⟨0, Nat.zero_le _, rfl, QR.nil _ _ (Below.refl _ _)⟩
  case round =>
    obtain ⟨i, hi, rfl, hqr⟩ := hrel
    have t0w := T0.out.below hqr.below T0.out.lt
    have hcs : wr.cell? ⟨ga, 3, none⟩ = some (.slice A E.length c) := t0w.cell 3
    have hLm : (del x (E.take i)).length ≤ 1000000 := by
      have : (del x (E.take i)).length ≤ (E.take i).length := List.length_filter_le _ _
      rw [List.length_take] at this
      omega
    by_cases hlt : i < E.length
    · obtain ⟨kb, rfl, hkb, hrq⟩ := qrow_at HR.out rfl hlt
      obtain ⟨p, hp⟩ : ∃ p, E.getD i default = p := ⟨_, rfl⟩
      rw [hp] at hrq
      obtain ⟨q1, q2, _, _⟩ := q_parts hrq
      obtain ⟨oy, hoy⟩ : ∃ l, kcells (oldK p.1).1 = l := ⟨_, rfl⟩
      obtain ⟨ny, hny⟩ : ∃ l, kcells (nowK p.1).1 = l := ⟨_, rfl⟩
      obtain ⟨pl, hpl⟩ : ∃ l, encQ p = l := ⟨_, rfl⟩
      have ky1 : kv (oldK p.1) = .agg oy.toArray := by rw [← hoy]; rfl
      have ky2 : kv (nowK p.1) = .agg ny.toArray := by rw [← hny]; rfl
      have s3 := size26_ (oldK p.1)
      have s4 := size26_ (nowK p.1)
      have hsp := size78_ p
      rw [hoy] at q1 s3
      rw [hny] at q2 s4
      rw [hpl] at hrq hsp
      have hu26 := Try.underlying26
      have SG : Hid (∀ w', Below wr.heap.size wr w' → w'.cell? ⟨ga, 3, none⟩ = some (.slice (some ⟨kb, 0, none⟩) E.length c) ∧ w'.rangeAt kb (i * 68) oy ∧ w'.rangeAt kb (i * 68 + 33) ny ∧ w'.rangeAt (ga + 1) 0 ol ∧ w'.rangeAt (ga + 2) 0 nl) := fun w' hw' => by
        have hb : Below W.heap.size W w' := hqr.below.trans (hw'.mono hqr.below.size)
        exact ⟨(T0.out.below hb T0.out.lt).cell 3, range_below q1 hb hkb, range_below q2 hb hkb, by simpa using (T1.out.below hb T1.out.lt).range, by simpa using (T2.out.below hb T2.out.lt).range⟩
      have KP1 := Lib.hid ky1
      have KP2 := Lib.hid ky2
      have HP := Lib.hid hp
      have HPL := Lib.hid hpl
      have HSP := Lib.hid hsp
      have HQR := Lib.hid hqr
      have HLm := Lib.hid hLm
      have HRQ := Lib.hid hrq
      clear q1 q2 hoy hny ky1 ky2 hp hpl hsp hqr t0w hrq hLm
      by_cases h1 : oldK p.1 = oldK x
      · have HQ := Lib.hid (show (!decide (oldK p.1 = oldK x)) = false by simp [h1])
        by_cases h2 : nowK p.1 = nowK x
        · have HQ2 := Lib.hid (show (!decide (nowK p.1 = nowK x)) = false by simp [h2])
          have HE1 := Lib.hid h1
          have HE2 := Lib.hid h2
          clear h1 h2
          go_wp2_with fail
          clear hcs
          refine wp_region_held_drew (S := (fun w' => Below wr.heap.size wr w')) (by kernel_rfl) (below_dr (Below.refl _ _)) (fun hHeld => ?_)
          refine wpAnyH_take (i := 0) (v := .pointer (some ⟨ga, 3, none⟩)) rfl (by kernel_rfl) (by kernel_rfl) (by kernel_rfl) (fun _ _ _ h => h) (Or.inl ⟨by rfl, fun w' hw' => by go_simp⟩) hHeld ?_
          try simp only [Act.put, List.getElem_toArray, List.getElem_cons_succ, List.getElem_cons_zero, List.setIfInBounds_toArray, List.set_cons_zero, List.set_cons_succ]
          refine wpAnyH_take (i := 1) (v := .slice (some ⟨kb, 0, none⟩) E.length c) rfl (by kernel_rfl) (by kernel_rfl) (by kernel_rfl) (fun _ _ _ h => h) (Or.inl ⟨by rfl, fun w' hw' => by have hc := (SG.out w' hw').1; go_simp⟩) hHeld ?_
          try simp only [Act.put, List.getElem_toArray, List.getElem_cons_succ, List.getElem_cons_zero, List.setIfInBounds_toArray, List.set_cons_zero, List.set_cons_succ]
          refine wpAnyH_take (i := 2) (v := .int .i64 i) rfl (by kernel_rfl) (by kernel_rfl) (by kernel_rfl) (fun _ _ _ h => h) (Or.inl ⟨by rfl, fun w' hw' => by go_simp⟩) hHeld ?_
          try simp only [Act.put, List.getElem_toArray, List.getElem_cons_succ, List.getElem_cons_zero, List.setIfInBounds_toArray, List.set_cons_zero, List.set_cons_succ]
          refine wpAnyH_take (i := 3) (v := .pointer (some ⟨kb, i * 68, none⟩)) rfl (by kernel_rfl) (by kernel_rfl) (by kernel_rfl) (fun _ _ _ h => h) (Or.inl ⟨by rfl, fun w' hw' => by go_simp⟩) hHeld ?_
          try simp only [Act.put, List.getElem_toArray, List.getElem_cons_succ, List.getElem_cons_zero, List.setIfInBounds_toArray, List.set_cons_zero, List.set_cons_succ]
          refine wpAnyH_take (i := 4) (v := .pointer (some ⟨kb, i * 68, none⟩)) rfl (by kernel_rfl) (by kernel_rfl) (by kernel_rfl) (fun _ _ _ h => h) (Or.inl ⟨by rfl, fun w' hw' => by go_simp⟩) hHeld ?_
          try simp only [Act.put, List.getElem_toArray, List.getElem_cons_succ, List.getElem_cons_zero, List.setIfInBounds_toArray, List.set_cons_zero, List.set_cons_succ]
          refine wpAnyH_take (i := 5) (v := .agg oy.toArray) rfl (by kernel_rfl) (by kernel_rfl) (by kernel_rfl) (fun _ _ _ h => h) (Or.inl ⟨by rfl, fun w' hw' => by exact exec_load rfl rfl (run_loadAt_mid w' kb (i * 68) 26 oy _ (SG.out w' hw').2.1 hu26 rfl s3)⟩) hHeld ?_
          try simp only [Act.put, List.getElem_toArray, List.getElem_cons_succ, List.getElem_cons_zero, List.setIfInBounds_toArray, List.set_cons_zero, List.set_cons_succ]
          refine wpAnyH_take (i := 6) (v := .agg ol.toArray) rfl (by kernel_rfl) (by kernel_rfl) (by kernel_rfl) (fun _ _ _ h => h) (Or.inl ⟨by rfl, fun w' hw' => by exact exec_load rfl rfl (run_loadAt_mid w' (ga + 1) 0 26 ol _ (SG.out w' hw').2.2.2.1 hu26 rfl S1.out)⟩) hHeld ?_
          try simp only [Act.put, List.getElem_toArray, List.getElem_cons_succ, List.getElem_cons_zero, List.setIfInBounds_toArray, List.set_cons_zero, List.set_cons_succ]
          refine wpAnyH_take (i := 7) (v := .bool false) rfl (by kernel_rfl) (by kernel_rfl) (by kernel_rfl) (fun _ _ _ h => h) (Or.inl ⟨by rfl, fun w' hw' => by exact exec_nek rfl rfl rfl KP1.out KX.out false HQ.out w'⟩) hHeld ?_
          try simp only [Act.put, List.getElem_toArray, List.getElem_cons_succ, List.getElem_cons_zero, List.setIfInBounds_toArray, List.set_cons_zero, List.set_cons_succ]
          refine wpAnyH_take (i := 8) (v := .bool false) rfl (by kernel_rfl) (by kernel_rfl) (by kernel_rfl) (fun _ _ _ h => h) (Or.inl ⟨by rfl, fun w' hw' => by go_simp⟩) hHeld ?_
          try simp only [Act.put, List.getElem_toArray, List.getElem_cons_succ, List.getElem_cons_zero, List.setIfInBounds_toArray, List.set_cons_zero, List.set_cons_succ]
          refine wpAnyH_take (i := 9) (v := .pointer (some ⟨ga, 3, none⟩)) rfl (by kernel_rfl) (by kernel_rfl) (by kernel_rfl) (fun _ _ _ h => h) (Or.inl ⟨by rfl, fun w' hw' => by go_simp⟩) hHeld ?_
          try simp only [Act.put, List.getElem_toArray, List.getElem_cons_succ, List.getElem_cons_zero, List.setIfInBounds_toArray, List.set_cons_zero, List.set_cons_succ]
          refine wpAnyH_take (i := 10) (v := .slice (some ⟨kb, 0, none⟩) E.length c) rfl (by kernel_rfl) (by kernel_rfl) (by kernel_rfl) (fun _ _ _ h => h) (Or.inl ⟨by rfl, fun w' hw' => by have hc := (SG.out w' hw').1; go_simp⟩) hHeld ?_
          try simp only [Act.put, List.getElem_toArray, List.getElem_cons_succ, List.getElem_cons_zero, List.setIfInBounds_toArray, List.set_cons_zero, List.set_cons_succ]
          refine wpAnyH_take (i := 11) (v := .int .i64 i) rfl (by kernel_rfl) (by kernel_rfl) (by kernel_rfl) (fun _ _ _ h => h) (Or.inl ⟨by rfl, fun w' hw' => by go_simp⟩) hHeld ?_
          try simp only [Act.put, List.getElem_toArray, List.getElem_cons_succ, List.getElem_cons_zero, List.setIfInBounds_toArray, List.set_cons_zero, List.set_cons_succ]
          refine wpAnyH_take (i := 12) (v := .pointer (some ⟨kb, i * 68, none⟩)) rfl (by kernel_rfl) (by kernel_rfl) (by kernel_rfl) (fun _ _ _ h => h) (Or.inl ⟨by rfl, fun w' hw' => by go_simp⟩) hHeld ?_
          try simp only [Act.put, List.getElem_toArray, List.getElem_cons_succ, List.getElem_cons_zero, List.setIfInBounds_toArray, List.set_cons_zero, List.set_cons_succ]
          refine wpAnyH_take (i := 13) (v := .pointer (some ⟨kb, i * 68 + 33, none⟩)) rfl (by kernel_rfl) (by kernel_rfl) (by kernel_rfl) (fun _ _ _ h => h) (Or.inl ⟨by rfl, fun w' hw' => by go_simp⟩) hHeld ?_
          try simp only [Act.put, List.getElem_toArray, List.getElem_cons_succ, List.getElem_cons_zero, List.setIfInBounds_toArray, List.set_cons_zero, List.set_cons_succ]
          refine wpAnyH_take (i := 14) (v := .agg ny.toArray) rfl (by kernel_rfl) (by kernel_rfl) (by kernel_rfl) (fun _ _ _ h => h) (Or.inl ⟨by rfl, fun w' hw' => by exact exec_load rfl rfl (run_loadAt_mid w' kb (i * 68 + 33) 26 ny _ (SG.out w' hw').2.2.1 hu26 rfl s4)⟩) hHeld ?_
          try simp only [Act.put, List.getElem_toArray, List.getElem_cons_succ, List.getElem_cons_zero, List.setIfInBounds_toArray, List.set_cons_zero, List.set_cons_succ]
          refine wpAnyH_take (i := 15) (v := .agg nl.toArray) rfl (by kernel_rfl) (by kernel_rfl) (by kernel_rfl) (fun _ _ _ h => h) (Or.inl ⟨by rfl, fun w' hw' => by exact exec_load rfl rfl (run_loadAt_mid w' (ga + 2) 0 26 nl _ (SG.out w' hw').2.2.2.2 hu26 rfl S2.out)⟩) hHeld ?_
          try simp only [Act.put, List.getElem_toArray, List.getElem_cons_succ, List.getElem_cons_zero, List.setIfInBounds_toArray, List.set_cons_zero, List.set_cons_succ]
          refine wpAnyH_take (i := 16) (v := .bool false) rfl (by kernel_rfl) (by kernel_rfl) (by kernel_rfl) (fun _ _ _ h => h) (Or.inl ⟨by rfl, fun w' hw' => by exact exec_nek rfl rfl rfl KP2.out KY.out false HQ2.out w'⟩) hHeld ?_
          try simp only [Act.put, List.getElem_toArray, List.getElem_cons_succ, List.getElem_cons_zero, List.setIfInBounds_toArray, List.set_cons_zero, List.set_cons_succ]
          refine wpAnyH_take (i := 17) (v := .bool false) rfl (by kernel_rfl) (by kernel_rfl) (by kernel_rfl) (fun _ _ _ h => h) (Or.inl ⟨by rfl, fun w' hw' => by go_simp⟩) hHeld ?_
          try simp only [Act.put, List.getElem_toArray, List.getElem_cons_succ, List.getElem_cons_zero, List.setIfInBounds_toArray, List.set_cons_zero, List.set_cons_succ]
          refine wpAnyH_done (by kernel_rfl) ?_ _
          have h1 := HE1.out
          have h2 := HE2.out
          clear s3 s4 hu26
          have hk2 := del_skip (x := x) hlt (by rw [HP.out]; exact ws_ext h1 h2)
          have HK2 := Lib.hid hk2
          have HQ5 := Lib.hid (HQR.out.below_ hHeld)
          clear hHeld HQR SG hk2 h1 h2
          go_wp2_with fail
          go_roundw
          case rel => exact ⟨i + 1, by omega, by go_num, by rw [HK2.out]; exact HQ5.out⟩
          case measure => first | (simp [intOf]; done) | (simp [intOf]; omega)
        · have HQ2 := Lib.hid (show (!decide (nowK p.1 = nowK x)) = true by simp [h2])
          have HNE := Lib.hid h2
          clear h1 h2
          go_wp2_with fail
          clear hcs
          refine wp_region_held_drew (S := (fun w' => Below wr.heap.size wr w')) (by kernel_rfl) (below_dr (Below.refl _ _)) (fun hHeld => ?_)
          refine wpAnyH_take (i := 0) (v := .pointer (some ⟨ga, 3, none⟩)) rfl (by kernel_rfl) (by kernel_rfl) (by kernel_rfl) (fun _ _ _ h => h) (Or.inl ⟨by rfl, fun w' hw' => by go_simp⟩) hHeld ?_
          try simp only [Act.put, List.getElem_toArray, List.getElem_cons_succ, List.getElem_cons_zero, List.setIfInBounds_toArray, List.set_cons_zero, List.set_cons_succ]
          refine wpAnyH_take (i := 1) (v := .slice (some ⟨kb, 0, none⟩) E.length c) rfl (by kernel_rfl) (by kernel_rfl) (by kernel_rfl) (fun _ _ _ h => h) (Or.inl ⟨by rfl, fun w' hw' => by have hc := (SG.out w' hw').1; go_simp⟩) hHeld ?_
          try simp only [Act.put, List.getElem_toArray, List.getElem_cons_succ, List.getElem_cons_zero, List.setIfInBounds_toArray, List.set_cons_zero, List.set_cons_succ]
          refine wpAnyH_take (i := 2) (v := .int .i64 i) rfl (by kernel_rfl) (by kernel_rfl) (by kernel_rfl) (fun _ _ _ h => h) (Or.inl ⟨by rfl, fun w' hw' => by go_simp⟩) hHeld ?_
          try simp only [Act.put, List.getElem_toArray, List.getElem_cons_succ, List.getElem_cons_zero, List.setIfInBounds_toArray, List.set_cons_zero, List.set_cons_succ]
          refine wpAnyH_take (i := 3) (v := .pointer (some ⟨kb, i * 68, none⟩)) rfl (by kernel_rfl) (by kernel_rfl) (by kernel_rfl) (fun _ _ _ h => h) (Or.inl ⟨by rfl, fun w' hw' => by go_simp⟩) hHeld ?_
          try simp only [Act.put, List.getElem_toArray, List.getElem_cons_succ, List.getElem_cons_zero, List.setIfInBounds_toArray, List.set_cons_zero, List.set_cons_succ]
          refine wpAnyH_take (i := 4) (v := .pointer (some ⟨kb, i * 68, none⟩)) rfl (by kernel_rfl) (by kernel_rfl) (by kernel_rfl) (fun _ _ _ h => h) (Or.inl ⟨by rfl, fun w' hw' => by go_simp⟩) hHeld ?_
          try simp only [Act.put, List.getElem_toArray, List.getElem_cons_succ, List.getElem_cons_zero, List.setIfInBounds_toArray, List.set_cons_zero, List.set_cons_succ]
          refine wpAnyH_take (i := 5) (v := .agg oy.toArray) rfl (by kernel_rfl) (by kernel_rfl) (by kernel_rfl) (fun _ _ _ h => h) (Or.inl ⟨by rfl, fun w' hw' => by exact exec_load rfl rfl (run_loadAt_mid w' kb (i * 68) 26 oy _ (SG.out w' hw').2.1 hu26 rfl s3)⟩) hHeld ?_
          try simp only [Act.put, List.getElem_toArray, List.getElem_cons_succ, List.getElem_cons_zero, List.setIfInBounds_toArray, List.set_cons_zero, List.set_cons_succ]
          refine wpAnyH_take (i := 6) (v := .agg ol.toArray) rfl (by kernel_rfl) (by kernel_rfl) (by kernel_rfl) (fun _ _ _ h => h) (Or.inl ⟨by rfl, fun w' hw' => by exact exec_load rfl rfl (run_loadAt_mid w' (ga + 1) 0 26 ol _ (SG.out w' hw').2.2.2.1 hu26 rfl S1.out)⟩) hHeld ?_
          try simp only [Act.put, List.getElem_toArray, List.getElem_cons_succ, List.getElem_cons_zero, List.setIfInBounds_toArray, List.set_cons_zero, List.set_cons_succ]
          refine wpAnyH_take (i := 7) (v := .bool false) rfl (by kernel_rfl) (by kernel_rfl) (by kernel_rfl) (fun _ _ _ h => h) (Or.inl ⟨by rfl, fun w' hw' => by exact exec_nek rfl rfl rfl KP1.out KX.out false HQ.out w'⟩) hHeld ?_
          try simp only [Act.put, List.getElem_toArray, List.getElem_cons_succ, List.getElem_cons_zero, List.setIfInBounds_toArray, List.set_cons_zero, List.set_cons_succ]
          refine wpAnyH_take (i := 8) (v := .bool false) rfl (by kernel_rfl) (by kernel_rfl) (by kernel_rfl) (fun _ _ _ h => h) (Or.inl ⟨by rfl, fun w' hw' => by go_simp⟩) hHeld ?_
          try simp only [Act.put, List.getElem_toArray, List.getElem_cons_succ, List.getElem_cons_zero, List.setIfInBounds_toArray, List.set_cons_zero, List.set_cons_succ]
          refine wpAnyH_take (i := 9) (v := .pointer (some ⟨ga, 3, none⟩)) rfl (by kernel_rfl) (by kernel_rfl) (by kernel_rfl) (fun _ _ _ h => h) (Or.inl ⟨by rfl, fun w' hw' => by go_simp⟩) hHeld ?_
          try simp only [Act.put, List.getElem_toArray, List.getElem_cons_succ, List.getElem_cons_zero, List.setIfInBounds_toArray, List.set_cons_zero, List.set_cons_succ]
          refine wpAnyH_take (i := 10) (v := .slice (some ⟨kb, 0, none⟩) E.length c) rfl (by kernel_rfl) (by kernel_rfl) (by kernel_rfl) (fun _ _ _ h => h) (Or.inl ⟨by rfl, fun w' hw' => by have hc := (SG.out w' hw').1; go_simp⟩) hHeld ?_
          try simp only [Act.put, List.getElem_toArray, List.getElem_cons_succ, List.getElem_cons_zero, List.setIfInBounds_toArray, List.set_cons_zero, List.set_cons_succ]
          refine wpAnyH_take (i := 11) (v := .int .i64 i) rfl (by kernel_rfl) (by kernel_rfl) (by kernel_rfl) (fun _ _ _ h => h) (Or.inl ⟨by rfl, fun w' hw' => by go_simp⟩) hHeld ?_
          try simp only [Act.put, List.getElem_toArray, List.getElem_cons_succ, List.getElem_cons_zero, List.setIfInBounds_toArray, List.set_cons_zero, List.set_cons_succ]
          refine wpAnyH_take (i := 12) (v := .pointer (some ⟨kb, i * 68, none⟩)) rfl (by kernel_rfl) (by kernel_rfl) (by kernel_rfl) (fun _ _ _ h => h) (Or.inl ⟨by rfl, fun w' hw' => by go_simp⟩) hHeld ?_
          try simp only [Act.put, List.getElem_toArray, List.getElem_cons_succ, List.getElem_cons_zero, List.setIfInBounds_toArray, List.set_cons_zero, List.set_cons_succ]
          refine wpAnyH_take (i := 13) (v := .pointer (some ⟨kb, i * 68 + 33, none⟩)) rfl (by kernel_rfl) (by kernel_rfl) (by kernel_rfl) (fun _ _ _ h => h) (Or.inl ⟨by rfl, fun w' hw' => by go_simp⟩) hHeld ?_
          try simp only [Act.put, List.getElem_toArray, List.getElem_cons_succ, List.getElem_cons_zero, List.setIfInBounds_toArray, List.set_cons_zero, List.set_cons_succ]
          refine wpAnyH_take (i := 14) (v := .agg ny.toArray) rfl (by kernel_rfl) (by kernel_rfl) (by kernel_rfl) (fun _ _ _ h => h) (Or.inl ⟨by rfl, fun w' hw' => by exact exec_load rfl rfl (run_loadAt_mid w' kb (i * 68 + 33) 26 ny _ (SG.out w' hw').2.2.1 hu26 rfl s4)⟩) hHeld ?_
          try simp only [Act.put, List.getElem_toArray, List.getElem_cons_succ, List.getElem_cons_zero, List.setIfInBounds_toArray, List.set_cons_zero, List.set_cons_succ]
          refine wpAnyH_take (i := 15) (v := .agg nl.toArray) rfl (by kernel_rfl) (by kernel_rfl) (by kernel_rfl) (fun _ _ _ h => h) (Or.inl ⟨by rfl, fun w' hw' => by exact exec_load rfl rfl (run_loadAt_mid w' (ga + 2) 0 26 nl _ (SG.out w' hw').2.2.2.2 hu26 rfl S2.out)⟩) hHeld ?_
          try simp only [Act.put, List.getElem_toArray, List.getElem_cons_succ, List.getElem_cons_zero, List.setIfInBounds_toArray, List.set_cons_zero, List.set_cons_succ]
          refine wpAnyH_take (i := 16) (v := .bool true) rfl (by kernel_rfl) (by kernel_rfl) (by kernel_rfl) (fun _ _ _ h => h) (Or.inl ⟨by rfl, fun w' hw' => by exact exec_nek rfl rfl rfl KP2.out KY.out true HQ2.out w'⟩) hHeld ?_
          try simp only [Act.put, List.getElem_toArray, List.getElem_cons_succ, List.getElem_cons_zero, List.setIfInBounds_toArray, List.set_cons_zero, List.set_cons_succ]
          refine wpAnyH_take (i := 17) (v := .bool true) rfl (by kernel_rfl) (by kernel_rfl) (by kernel_rfl) (fun _ _ _ h => h) (Or.inl ⟨by rfl, fun w' hw' => by go_simp⟩) hHeld ?_
          try simp only [Act.put, List.getElem_toArray, List.getElem_cons_succ, List.getElem_cons_zero, List.setIfInBounds_toArray, List.set_cons_zero, List.set_cons_succ]
          refine wpAnyH_done (by kernel_rfl) ?_ _
          clear s3 s4 hu26
          have hk2 := del_keep (x := x) hlt (by rw [HP.out]; exact fun e => HNE.out (congrArg nowK e))
          rw [HP.out] at hk2
          have HK2 := Lib.hid hk2
          have HQ5 := Lib.hid (HQR.out.below_ hHeld)
          have HRP := Lib.hid (range_below HRQ.out HQ5.out.below hkb)
          have hcs := (T0.out.below HQ5.out.below T0.out.lt).cell 3
          simp only [tcells] at hcs
          clear hHeld HQR SG hk2
          generalize del x (E.take i) = L at HK2 HQ5 HLm
          go_wp2_with (first | (refine wpList_load_range 78 (.tmp 40) kb (i * 68) pl.toArray _ rfl rfl rfl Try.underlying78 rfl (by simpa using HSP.out) HRP.out ?_) | (refine wpList_push (.tmp 41) (.tmp 36) 42 rfl rfl rfl rfl rfl pl HPL.out rfl rfl rfl HQ5.out HLm.out ?_))
          intro v9 w9 hq9
          have HX := Lib.hid hq9
          clear hq9 hcs HRP
          go_wp2_with fail
          go_roundw
          case rel => exact ⟨i + 1, by omega, by go_num, by rw [HK2.out]; exact HX.out⟩
          case measure => first | (simp [intOf]; done) | (simp [intOf]; omega)
      · have HQ := Lib.hid (show (!decide (oldK p.1 = oldK x)) = true by simp [h1])
        have HNE := Lib.hid h1
        clear h1
        go_wp2_with fail
        clear hcs
        refine wp_region_held_drew (S := (fun w' => Below wr.heap.size wr w')) (by kernel_rfl) (below_dr (Below.refl _ _)) (fun hHeld => ?_)
        refine wpAnyH_take (i := 0) (v := .pointer (some ⟨ga, 3, none⟩)) rfl (by kernel_rfl) (by kernel_rfl) (by kernel_rfl) (fun _ _ _ h => h) (Or.inl ⟨by rfl, fun w' hw' => by go_simp⟩) hHeld ?_
        try simp only [Act.put, List.getElem_toArray, List.getElem_cons_succ, List.getElem_cons_zero, List.setIfInBounds_toArray, List.set_cons_zero, List.set_cons_succ]
        refine wpAnyH_take (i := 1) (v := .slice (some ⟨kb, 0, none⟩) E.length c) rfl (by kernel_rfl) (by kernel_rfl) (by kernel_rfl) (fun _ _ _ h => h) (Or.inl ⟨by rfl, fun w' hw' => by have hc := (SG.out w' hw').1; go_simp⟩) hHeld ?_
        try simp only [Act.put, List.getElem_toArray, List.getElem_cons_succ, List.getElem_cons_zero, List.setIfInBounds_toArray, List.set_cons_zero, List.set_cons_succ]
        refine wpAnyH_take (i := 2) (v := .int .i64 i) rfl (by kernel_rfl) (by kernel_rfl) (by kernel_rfl) (fun _ _ _ h => h) (Or.inl ⟨by rfl, fun w' hw' => by go_simp⟩) hHeld ?_
        try simp only [Act.put, List.getElem_toArray, List.getElem_cons_succ, List.getElem_cons_zero, List.setIfInBounds_toArray, List.set_cons_zero, List.set_cons_succ]
        refine wpAnyH_take (i := 3) (v := .pointer (some ⟨kb, i * 68, none⟩)) rfl (by kernel_rfl) (by kernel_rfl) (by kernel_rfl) (fun _ _ _ h => h) (Or.inl ⟨by rfl, fun w' hw' => by go_simp⟩) hHeld ?_
        try simp only [Act.put, List.getElem_toArray, List.getElem_cons_succ, List.getElem_cons_zero, List.setIfInBounds_toArray, List.set_cons_zero, List.set_cons_succ]
        refine wpAnyH_take (i := 4) (v := .pointer (some ⟨kb, i * 68, none⟩)) rfl (by kernel_rfl) (by kernel_rfl) (by kernel_rfl) (fun _ _ _ h => h) (Or.inl ⟨by rfl, fun w' hw' => by go_simp⟩) hHeld ?_
        try simp only [Act.put, List.getElem_toArray, List.getElem_cons_succ, List.getElem_cons_zero, List.setIfInBounds_toArray, List.set_cons_zero, List.set_cons_succ]
        refine wpAnyH_take (i := 5) (v := .agg oy.toArray) rfl (by kernel_rfl) (by kernel_rfl) (by kernel_rfl) (fun _ _ _ h => h) (Or.inl ⟨by rfl, fun w' hw' => by exact exec_load rfl rfl (run_loadAt_mid w' kb (i * 68) 26 oy _ (SG.out w' hw').2.1 hu26 rfl s3)⟩) hHeld ?_
        try simp only [Act.put, List.getElem_toArray, List.getElem_cons_succ, List.getElem_cons_zero, List.setIfInBounds_toArray, List.set_cons_zero, List.set_cons_succ]
        refine wpAnyH_take (i := 6) (v := .agg ol.toArray) rfl (by kernel_rfl) (by kernel_rfl) (by kernel_rfl) (fun _ _ _ h => h) (Or.inl ⟨by rfl, fun w' hw' => by exact exec_load rfl rfl (run_loadAt_mid w' (ga + 1) 0 26 ol _ (SG.out w' hw').2.2.2.1 hu26 rfl S1.out)⟩) hHeld ?_
        try simp only [Act.put, List.getElem_toArray, List.getElem_cons_succ, List.getElem_cons_zero, List.setIfInBounds_toArray, List.set_cons_zero, List.set_cons_succ]
        refine wpAnyH_take (i := 7) (v := .bool true) rfl (by kernel_rfl) (by kernel_rfl) (by kernel_rfl) (fun _ _ _ h => h) (Or.inl ⟨by rfl, fun w' hw' => by exact exec_nek rfl rfl rfl KP1.out KX.out true HQ.out w'⟩) hHeld ?_
        try simp only [Act.put, List.getElem_toArray, List.getElem_cons_succ, List.getElem_cons_zero, List.setIfInBounds_toArray, List.set_cons_zero, List.set_cons_succ]
        refine wpAnyH_take (i := 8) (v := .bool true) rfl (by kernel_rfl) (by kernel_rfl) (by kernel_rfl) (fun _ _ _ h => h) (Or.inl ⟨by rfl, fun w' hw' => by go_simp⟩) hHeld ?_
        try simp only [Act.put, List.getElem_toArray, List.getElem_cons_succ, List.getElem_cons_zero, List.setIfInBounds_toArray, List.set_cons_zero, List.set_cons_succ]
        refine wpAnyH_take (i := 9) (v := undef) rfl (by kernel_rfl) (by kernel_rfl) (by kernel_rfl) (fun _ _ _ h => h) (Or.inr ⟨by rfl, rfl⟩) hHeld ?_
        try simp only [Act.put, List.getElem_toArray, List.getElem_cons_succ, List.getElem_cons_zero, List.setIfInBounds_toArray, List.set_cons_zero, List.set_cons_succ]
        refine wpAnyH_take (i := 10) (v := undef) rfl (by kernel_rfl) (by kernel_rfl) (by kernel_rfl) (fun _ _ _ h => h) (Or.inr ⟨by rfl, rfl⟩) hHeld ?_
        try simp only [Act.put, List.getElem_toArray, List.getElem_cons_succ, List.getElem_cons_zero, List.setIfInBounds_toArray, List.set_cons_zero, List.set_cons_succ]
        refine wpAnyH_take (i := 11) (v := undef) rfl (by kernel_rfl) (by kernel_rfl) (by kernel_rfl) (fun _ _ _ h => h) (Or.inr ⟨by rfl, rfl⟩) hHeld ?_
        try simp only [Act.put, List.getElem_toArray, List.getElem_cons_succ, List.getElem_cons_zero, List.setIfInBounds_toArray, List.set_cons_zero, List.set_cons_succ]
        refine wpAnyH_take (i := 12) (v := undef) rfl (by kernel_rfl) (by kernel_rfl) (by kernel_rfl) (fun _ _ _ h => h) (Or.inr ⟨by rfl, rfl⟩) hHeld ?_
        try simp only [Act.put, List.getElem_toArray, List.getElem_cons_succ, List.getElem_cons_zero, List.setIfInBounds_toArray, List.set_cons_zero, List.set_cons_succ]
        refine wpAnyH_take (i := 13) (v := undef) rfl (by kernel_rfl) (by kernel_rfl) (by kernel_rfl) (fun _ _ _ h => h) (Or.inr ⟨by rfl, rfl⟩) hHeld ?_
        try simp only [Act.put, List.getElem_toArray, List.getElem_cons_succ, List.getElem_cons_zero, List.setIfInBounds_toArray, List.set_cons_zero, List.set_cons_succ]
        refine wpAnyH_take (i := 14) (v := undef) rfl (by kernel_rfl) (by kernel_rfl) (by kernel_rfl) (fun _ _ _ h => h) (Or.inr ⟨by rfl, rfl⟩) hHeld ?_
        try simp only [Act.put, List.getElem_toArray, List.getElem_cons_succ, List.getElem_cons_zero, List.setIfInBounds_toArray, List.set_cons_zero, List.set_cons_succ]
        refine wpAnyH_take (i := 15) (v := undef) rfl (by kernel_rfl) (by kernel_rfl) (by kernel_rfl) (fun _ _ _ h => h) (Or.inr ⟨by rfl, rfl⟩) hHeld ?_
        try simp only [Act.put, List.getElem_toArray, List.getElem_cons_succ, List.getElem_cons_zero, List.setIfInBounds_toArray, List.set_cons_zero, List.set_cons_succ]
        refine wpAnyH_take (i := 16) (v := undef) rfl (by kernel_rfl) (by kernel_rfl) (by kernel_rfl) (fun _ _ _ h => h) (Or.inr ⟨by rfl, rfl⟩) hHeld ?_
        try simp only [Act.put, List.getElem_toArray, List.getElem_cons_succ, List.getElem_cons_zero, List.setIfInBounds_toArray, List.set_cons_zero, List.set_cons_succ]
        refine wpAnyH_take (i := 17) (v := .bool true) rfl (by kernel_rfl) (by kernel_rfl) (by kernel_rfl) (fun _ _ _ h => h) (Or.inl ⟨by rfl, fun w' hw' => by go_simp⟩) hHeld ?_
        try simp only [Act.put, List.getElem_toArray, List.getElem_cons_succ, List.getElem_cons_zero, List.setIfInBounds_toArray, List.set_cons_zero, List.set_cons_succ]
        refine wpAnyH_done (by kernel_rfl) ?_ _
        clear s3 s4 hu26
        have hk2 := del_keep (x := x) hlt (by rw [HP.out]; exact fun e => HNE.out (congrArg oldK e))
        rw [HP.out] at hk2
        have HK2 := Lib.hid hk2
        have HQ5 := Lib.hid (HQR.out.below_ hHeld)
        have HRP := Lib.hid (range_below HRQ.out HQ5.out.below hkb)
        have hcs := (T0.out.below HQ5.out.below T0.out.lt).cell 3
        simp only [tcells] at hcs
        clear hHeld HQR SG hk2
        generalize del x (E.take i) = L at HK2 HQ5 HLm
        go_wp2_with (first | (refine wpList_load_range 78 (.tmp 40) kb (i * 68) pl.toArray _ rfl rfl rfl Try.underlying78 rfl (by simpa using HSP.out) HRP.out ?_) | (refine wpList_push (.tmp 41) (.tmp 36) 42 rfl rfl rfl rfl rfl pl HPL.out rfl rfl rfl HQ5.out HLm.out ?_))
        intro v9 w9 hq9
        have HX := Lib.hid hq9
        clear hq9 hcs HRP
        go_wp2_with fail
        go_roundw
        case rel => exact ⟨i + 1, by omega, by go_num, by rw [HK2.out]; exact HX.out⟩
        case measure => first | (simp [intOf]; done) | (simp [intOf]; omega)
    · obtain rfl : i = E.length := by omega
      rw [List.take_length] at hqr hLm
      have hqo := hqr.own
      obtain ⟨A2, c2, rfl⟩ := qrow_own_slice hqo
      clear hqo
      have t0f := T0.out.below hqr.below T0.out.lt
      have t3f := T3.out.below hqr.below T3.out.lt
      have hfz := t0f.frozen 3
      have t0s := tset (v' := .slice A2 (del x E).length c2) t0f
      have hgs2 : wr.grownBy (wr.setCell ⟨ga, 3, none⟩ (.slice A2 (del x E).length c2)) (some ga) := ⟨rfl, rfl, rfl, by simp, fun k _ hk => Below.heap_setCell wr _ _ k (fun e => hk (by rw [e]))⟩
      have t3s := t3f.grown hgs2 (fun e => by injection e with e; omega)
      have hrs := hqr.own.kept hgs2 (.inr (own_blk_ne hqr.own t0f (by decide)))
      have hls := (HL.out.trans (hqr.below.mono HL.out.size)).grown hgs2 (HL.out.trans (hqr.below.mono HL.out.size)).size (fun k e => by injection e with e; have := HGq.out; omega)
      have TS := Lib.hid t0s
      have T3' := Lib.hid t3s
      have HR' := Lib.hid hrs
      have HL' := Lib.hid hls
      clear t0f t3f t0s hgs2 t3s hrs hls hqr t0w hLm
      go_wp2_with (first
        | (refine wpList_load_range 48 (.tmp 3) ga 0 (tcells base most budget (.slice A2 (del x E).length c2)) _ rfl rfl rfl Try.underlying48 rfl (size48 _ _ _ _) TS.out.range ?_)
        | (refine wpList_store_blk 48 (.tmp 6) (.tmp 52) (ga + 3) (tcells 0 0 0 (.slice none 0 0)) (tcells base most budget (.slice A2 (del x E).length c2)) rfl rfl rfl rfl (size48 _ _ _ _) T3'.out rfl (tcells_ones _ _ _ _ _ _) ?_))
      intro v7 kb7 kg7 _
      have hr2 := HR'.out.kept kg7 (.inr (own_blk_ne HR'.out T3'.out (by decide)))
      have hl2 := HL'.out.grown kg7 HL'.out.size (fun k e => by injection e with e; have := HGq.out; omega)
      have HK := Lib.hid kb7
      have HR2 := Lib.hid hr2
      have HL2 := Lib.hid hl2
      clear kb7 kg7 hr2 hl2 HR' HL' T3' TS hcs hfz
      go_wp2_with fail
      refine bodyPost_ret (results_t rfl rfl rfl HK.out rfl) rfl ?_
      exact ⟨A2, c2, _, by rw [← HLS.out]; rfl, HR2.out, HL2.out⟩
end Go.Proofs.Ythjgmnafbikihaa
