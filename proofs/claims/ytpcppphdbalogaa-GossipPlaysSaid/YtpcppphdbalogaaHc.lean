/-
  Gossip: the reference's Seen: it reads the row of what was told.
-/
import Derived.Test.YtpcppphdbalogaaHb
import Derived.Test.YtpcppphdbalogaaMid
namespace Go.Proofs.Ytpcppphdbalogaa
open Go.RowKit Go.Sort Go.Maps

theorem tcells_length {L : List (List Int)} (h : ∀ x ∈ L, x.length = 32) : (tcells L).length = L.length * 32 := by
  induction L with
  | nil => rfl
  | cons x L ih =>
    have h1 := h x (by simp)
    have h2 := ih (fun y hy => h y (by simp [hy]))
    simp only [tcells, List.flatMap_cons, List.length_append, List.length_map, List.length_cons] at h2 ⊢
    omega
theorem tcells_get {L : List (List Int)} (h : ∀ x ∈ L, x.length = 32) {i j : Nat} (hi : i < L.length) (hj : j < 32) : (tcells L)[i * 32 + j]? = ((L.getD i []).map (Value.int .u8))[j]? := by
  induction L generalizing i with
  | nil => simp at hi
  | cons x L ih =>
    have h1 := h x (by simp)
    cases i with
    | zero =>
      simp only [tcells, List.flatMap_cons, Nat.zero_mul, Nat.zero_add, List.getD_cons_zero]
      rw [List.getElem?_append_left (by simp; omega)]
    | succ i =>
      have := ih (fun y hy => h y (by simp [hy])) (i := i) (by simpa using hi)
      simp only [tcells, List.flatMap_cons, List.getD_cons_succ] at this ⊢
      rw [List.getElem?_append_right (by simp; omega), ← this]
      congr 1
      simp
      omega

theorem told_range {w : World} {B n : Nat} {A : Option Addr} {L : List (List Int)} (hr : Reads w B 32 A n (tcells L)) (hL : ∀ x ∈ L, IsH x) (hl : L.length = n) (hn : 0 < n) :
    ∃ b off, A = some ⟨b, off, none⟩ ∧ b < B ∧ ∀ i, i < n → w.rangeAt b (off + i * 32) ((L.getD i []).map (Value.int .u8)) := by
  have h32 : ∀ x ∈ L, x.length = 32 := fun x hx => (hL x hx).1
  obtain ⟨⟨b, off, spot⟩, e, hb, hc⟩ := hr.2 hn
  have hget : ∀ i j v, i < n → ((L.getD i []).map (Value.int .u8))[j]? = some v → w.cell? ((⟨b, off, spot⟩ : Addr).add (i * 32 + j)) = some v := by
    intro i j v hi hv
    have hj : j < 32 := by
      have h1 := (List.getElem?_eq_some_iff.1 hv).1
      have h2 : (L.getD i []).length = 32 := by
        have : L.getD i [] = L[i] := by simp [hl, hi]
        rw [this]; exact h32 _ (List.getElem_mem _)
      simp only [List.length_map] at h1
      omega
    exact hc _ _ ((tcells_get h32 (by omega) hj).trans hv)
  have h0 : ∃ v, w.cell? ((⟨b, off, spot⟩ : Addr).add (0 * 32 + 0)) = some v := by
    have h2 : (L.getD 0 []).length = 32 := by
      have : L.getD 0 [] = L[0] := by simp [hl, hn]
      rw [this]; exact h32 _ (List.getElem_mem _)
    have h3 : 0 < (L.getD 0 []).length := by omega
    exact ⟨_, hget 0 0 _ hn (by rw [List.getElem?_map, List.getElem?_eq_getElem h3]; rfl)⟩
  obtain ⟨v, h0⟩ := h0
  have hsp : spot = none := by simpa [Addr.add] using World.cell?_spot h0
  subst hsp
  refine ⟨b, off, e, hb, fun i hi j v hv => ?_⟩
  have := hget i j v hi hv
  rw [Addr.add_lit] at this
  rw [Nat.add_assoc]
  exact this

theorem load36_at {w : World} {b o : Nat} {zs : List Int} (hz : zs.length = 32) (hb : w.rangeAt b o (zs.map (Value.int .u8))) : (Instr.loadAt 36 (.pointer (some ⟨b, o, none⟩))).run Try.prog w = .ok (hv zs) w :=
  run_loadAt_mid w b o 36 (zs.map (Value.int .u8)) _ hb Try.underlying36 rfl (by rw [size36]; simp [hz])
theorem quiet_eql36 {o : Oper} {a : Act} {C : World → Prop} {w : World} (x y : Operand) (xs ys : Array Value) (v : Value) (ho : o.op = .binOp .eql 36 x y 36) (hx : a.eval x = .agg xs) (hy : a.eval y = .agg ys)
    (hl : (binOp .eql 36 (.agg xs) (.agg ys)).run Try.prog w = .ok v w) : o.quietAt Try.prog a C w v := by
  have hg := run_eqGuard_agg (P := Try.prog) w .eql 36 x y xs ys (by kernel_rfl)
  unfold Oper.quietAt execOp
  simp only [ho, hx, hy, Sem.run_bind, hg, hl, Result.andThen_ok, Sem.run_pure]
  exact ⟨rfl, rfl⟩

set_option maxHeartbeats 1000000 in
theorem rseen_any (me many fan s : Int) (A : Option Addr) (n c : Nat) (L : List (List Int)) (zs : List Int) (w : World) (hz : IsH zs) (hL : ∀ x ∈ L, IsH x) (hl : L.length = n) (hr : Reads w w.heap.size 32 A n (tcells L)) (hn : n ≤ 1000) :
    Calls Try.prog 16 #[.agg (refCells me many fan s (.slice A n c)), hv zs] w fun e w' => e = .returned (.bool (decide (zs ∈ L))) ∧ Below w.heap.size w w' := by
  obtain ⟨cs, hcs⟩ : ∃ cs, (zs.map (Value.int .u8)).toArray = cs := ⟨_, rfl⟩
  have hcv : hv zs = .agg cs := by rw [← hcs]; rfl
  obtain ⟨W, hW⟩ : ∃ W, W = (w.alloc (.cells (refCells me many fan s (.slice A n c)) 31)).alloc (.cells cs 36) := ⟨_, rfl⟩
  have hB : Below w.heap.size w W := by rw [hW]; exact ((Below.refl _ w).alloc (Nat.le_refl _) _).alloc (by simp) _
  have hb1 : Blk W w.heap.size 31 (refCells me many fan s (.slice A n c)) := by rw [hW]; exact (Blk.new w 31 _).alloc _
  have hb2 : Blk W (w.heap.size + 1) 36 cs := by rw [hW]; simpa using Blk.new (w.alloc (.cells (refCells me many fan s (.slice A n c)) 31)) 36 cs
  have hc4 : W.cell? ⟨w.heap.size, 4, none⟩ = some (.slice A n c) := (ref_cells hb1).2.2.2.2
  have hws : w.heap.size + 1 < W.heap.size := hb2.lt
  have hrW := Lib.hid ((hr.below hB).more hB.size)
  have HZ2 : Hid (W.rangeAt (w.heap.size + 1) 0 (zs.map (Value.int .u8))) := fun j v hv => by
    rw [hb2.cell, ← hcs]
    simpa using hv
  have HX := Lib.hid hcv
  have HZ := Lib.hid hz
  have HL := Lib.hid hL
  have HB := Lib.hid hB
  have Hl := Lib.hid hl
  rw [hcv]
  clear hcv hz hL hB hb1 hb2 hr hcs hl
  obtain ⟨bx, hbx⟩ : ∃ bx, bx = w.heap.size := ⟨_, rfl⟩
  rw [← hbx] at hc4 hws HZ2
  go_enter Try.func16, Try.ntmps16
  go_wp2_with fail
  rw [← hW, ← hbx]
  have HBX := Lib.hid hbx
  clear hW hbx
  go_loopw [5] (fun iv wr => ∃ i : Nat, i ≤ n ∧ iv = .int .i64 i ∧ zs ∉ L.take i ∧ Below W.heap.size W wr)
    (fun iv _ => n - (intOf iv).toNat)
  case atStart => exact ⟨0, Nat.zero_le _, rfl, by simp, Below.refl _ _⟩
  case round =>
    obtain ⟨i, hin, rfl, hni, hBr⟩ := hrel
    have hc4r := (hBr.cell (p := ⟨bx, 4, none⟩) (by show bx < _; omega)).trans hc4
    by_cases hlt : i < n
    · obtain ⟨b, off, rfl, hb, hrg⟩ := told_range hrW.out HL.out Hl.out (by omega)
      obtain ⟨x, hx⟩ : ∃ x, L.getD i [] = x := ⟨_, rfl⟩
      have hxL : x ∈ L := by
        have hi' : i < L.length := by rw [Hl.out]; exact hlt
        have : L.getD i [] = L[i] := by simp [hi']
        rw [← hx, this]; exact List.getElem_mem hi'
      have HXH := Lib.hid (HL.out x hxL)
      obtain ⟨cx, hcx⟩ : ∃ cx, (x.map (Value.int .u8)).toArray = cx := ⟨_, rfl⟩
      have hcxv : hv x = .agg cx := by rw [← hcx]; rfl
      have hL1 : ∀ nq, (Instr.loadAt 36 (.pointer (some ⟨b, off + i * 32, none⟩))).run Try.prog (wr.drewN nq) = .ok (.agg cx) (wr.drewN nq) := fun nq => by
        rw [← hcxv]
        have h1 := hrg i hlt
        rw [hx] at h1
        exact load36_at HXH.out.1 (range_below (range_below h1 hBr hb) (below_dN (Below.refl _ _) nq) (Nat.lt_of_lt_of_le hb hBr.size))
      have hL2 : ∀ nq, (Instr.loadAt 36 (.pointer (some ⟨bx + 1, 0, none⟩))).run Try.prog (wr.drewN nq) = .ok (.agg cs) (wr.drewN nq) := fun nq => by
        rw [← HX.out]
        exact load36_at HZ.out.1 (range_below (range_below HZ2.out hBr hws) (below_dN (Below.refl _ _) nq) (Nat.lt_of_lt_of_le hws hBr.size))
      have hE : ∀ nq, (binOp .eql 36 (.agg cx) (.agg cs)).run Try.prog (wr.drewN nq) = .ok (.bool (decide (x = zs))) (wr.drewN nq) := fun nq => by
        rw [← hcxv, ← HX.out]; exact eq36 HXH.out HZ.out _
      have Htk : Hid (zs ∉ L.take (i + 1) ↔ x ≠ zs) := by
        show _ ↔ _
        have hi' : i < L.length := by rw [Hl.out]; exact hlt
        have e1 : L.getD i [] = L[i] := by simp [hi']
        have e2 : L.take (i + 1) = L.take i ++ [x] := by rw [List.take_add_one, List.getElem?_eq_getElem hi', ← hx, e1]; rfl
        rw [e2]
        constructor
        · rintro h rfl; exact h (by simp)
        · intro h h'
          rcases List.mem_append.1 h' with h' | h'
          · exact hni h'
          · exact h (List.mem_singleton.1 h').symm
      have HBr := Lib.hid hBr
      have Hm := Lib.hid hxL
      clear hcx hcxv hx hrg hBr hni hxL
      by_cases hxz : x = zs
      · rw [decide_eq_true hxz] at hE
        have Hin : Hid (decide (zs ∈ L) = true) := by rw [← hxz]; exact decide_eq_true Hm.out
        clear hxz Htk
        go_wp2_with fail
        refine wp_region_quiet_lit (by kernel_rfl) (by kernel_rfl) ?_
        iterate 4 (quiet_step (fail))
        refine wpQuiet_step (fun K hK => ?_)
        rw [if_pos (by rfl)]
        refine ⟨.agg cx, fun w' hw' => ?_, ?_⟩
        · obtain ⟨nq, rfl⟩ := hw'
          exact quiet_load 36 _ _ _ rfl rfl (hL1 nq)
        go_simp
        refine hK _ ?_
        clear hK K hL1
        refine wpQuiet_step (fun K hK => ?_)
        rw [if_pos (by rfl)]
        refine ⟨.agg cs, fun w' hw' => ?_, ?_⟩
        · obtain ⟨nq, rfl⟩ := hw'
          exact quiet_load 36 _ _ _ rfl rfl (hL2 nq)
        go_simp
        refine hK _ ?_
        clear hK K hL2
        refine wpQuiet_step (fun K hK => ?_)
        rw [if_pos (by rfl)]
        refine ⟨.bool true, fun w' hw' => ?_, ?_⟩
        · obtain ⟨nq, rfl⟩ := hw'
          exact quiet_eql36 _ _ _ _ _ rfl rfl rfl (hE nq)
        go_simp
        refine hK _ ?_
        clear hK K
        refine wpQuiet_nil ?_
        intro _ hw'
        obtain ⟨nq, hw''⟩ := hw'
        subst hw''
        clear hE
        go_wp2_with fail
        go_ret
        exact ⟨by rw [Hin.out]; rfl, below_dN (HB.out.trans (HBr.out.mono HB.out.size)) _⟩
      · rw [decide_eq_false hxz] at hE
        have Hn := Lib.hid (Htk.out.2 hxz)
        clear hxz Htk
        go_wp2_with fail
        refine wp_region_quiet_lit (by kernel_rfl) (by kernel_rfl) ?_
        iterate 4 (quiet_step (fail))
        refine wpQuiet_step (fun K hK => ?_)
        rw [if_pos (by rfl)]
        refine ⟨.agg cx, fun w' hw' => ?_, ?_⟩
        · obtain ⟨nq, rfl⟩ := hw'
          exact quiet_load 36 _ _ _ rfl rfl (hL1 nq)
        go_simp
        refine hK _ ?_
        clear hK K hL1
        refine wpQuiet_step (fun K hK => ?_)
        rw [if_pos (by rfl)]
        refine ⟨.agg cs, fun w' hw' => ?_, ?_⟩
        · obtain ⟨nq, rfl⟩ := hw'
          exact quiet_load 36 _ _ _ rfl rfl (hL2 nq)
        go_simp
        refine hK _ ?_
        clear hK K hL2
        refine wpQuiet_step (fun K hK => ?_)
        rw [if_pos (by rfl)]
        refine ⟨.bool false, fun w' hw' => ?_, ?_⟩
        · obtain ⟨nq, rfl⟩ := hw'
          exact quiet_eql36 _ _ _ _ _ rfl rfl rfl (hE nq)
        go_simp
        refine hK _ ?_
        clear hK K
        refine wpQuiet_nil ?_
        intro _ hw'
        obtain ⟨nq, hw''⟩ := hw'
        subst hw''
        clear hE
        go_wp2_with fail
        go_roundw
        case rel => exact ⟨i + 1, by omega, by go_num, Hn.out, below_dN HBr.out _⟩
        case measure => simp [intOf]; omega
    · have hii : i = n := by omega
      have Hout : Hid (decide (zs ∈ L) = false) := by
        rw [hii, List.take_of_length_le (by rw [Hl.out]; exact Nat.le_refl _)] at hni
        exact decide_eq_false hni
      have HBr := Lib.hid hBr
      clear hBr hni hii
      go_wp2_with fail
      go_ret
      exact ⟨by rw [Hout.out]; rfl, HB.out.trans (HBr.out.mono HB.out.size)⟩
end Go.Proofs.Ytpcppphdbalogaa
