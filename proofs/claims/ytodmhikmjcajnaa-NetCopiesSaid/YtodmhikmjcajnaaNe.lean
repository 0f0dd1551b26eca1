/-
  Net: Delete of one mail out of the net's row; Take; Copy.
-/
import Derived.Test.YtodmhikmjcajnaaNd
import Derived.Test.YtodmhikmjcajnaaRowSet
namespace Go.Proofs.Ytodmhikmjcajnaa
open Go.RowKit

/-- what clear lays where a mail stood. -/
def zeroMail : List Value := [.int .i64 0, .int .i64 0, .slice none 0 0]
theorem run_clear_mail (w : World) (ty : TypeId) (b o c : Nat) (hc : ∀ j, j < 3 → (w.cell? ⟨b, o + j, none⟩).isSome = true) (hf : ∀ j, j < 3 → w.frozen? ⟨b, o + j, none⟩ = false) :
    (Builtin.clear_ #[42] ty #[.slice (some ⟨b, o, none⟩) 1 c]).run Try.prog w = .ok (.tuple #[]) (w.setCells b o zeroMail) := by
  have hst := run_storeCells_cells (P := Try.prog) b o zeroMail 0 w (by simpa [zeroMail] using hc) (by simpa [zeroMail] using hf) (by intro v hv; simp [zeroMail] at hv; rcases hv with rfl | rfl <;> rfl)
  simp only [Nat.add_zero] at hst
  have hz : (Builtin.zeroCells (Value.agg #[.int .i64 0, .int .i64 0, .slice none 0 0]).cells 1).toList = zeroMail := by kernel_rfl
  simp [Builtin.clear_, run_underlying Try.underlying42, Try.zeroValue31, hz, hst]

theorem own_capn {w : World} {base e size g cap n : Nat} {zs : List Value} (h : w.ownsRow base e size (.slice (some ⟨g, 0, none⟩) n cap) n zs) : n ≤ cap ∧ cap ≤ maxLen := by
  rcases h.2 with ⟨h', _⟩ | ⟨g', cap', cur, h', hb, hg, hnc, hcm, hcs, htake⟩
  · simp at h'
  · simp only [Value.slice.injEq, Option.some.injEq, Addr.mk.injEq, and_true, true_and] at h'
    obtain ⟨rfl, rfl⟩ := h'
    exact ⟨hnc, hcm⟩

theorem there_setCells (b : Nat) (vs : List Value) (o : Nat) (w : World) (q : Addr) (h : (w.cell? q).isSome = true) : ((w.setCells b o vs).cell? q).isSome = true := by
  induction vs generalizing o w with
  | nil => exact h
  | cons v r ih =>
    refine ih (o + 1) _ ?_
    by_cases e : (⟨b, o, none⟩ : Addr) = q
    · subst e
      obtain ⟨u, hu⟩ := Option.isSome_iff_exists.1 h
      rw [World.cell?_setCell_same _ _ _ hu]; rfl
    · rw [World.cell?_setCell_other _ _ _ _ e]; exact h

theorem delete_grown {w a a' : World} {b : Nat} (h : w.grownBy a (some b)) (g : a.grownBy a' (some b)) : w.grownBy a' (some b) :=
  ⟨g.os.trans h.os, g.tape.trans h.tape, g.output.trans h.output, Nat.le_trans h.size g.size, fun k hk hne => (g.block k (Nat.lt_of_lt_of_le hk h.size) hne).trans (h.block k hk hne)⟩
set_option maxHeartbeats 800000 in
theorem delete_own (g cap m i : Nat) (xs : List Value) (w : World) (h : w.ownsRow 0 31 3 (.slice (some ⟨g, 0, none⟩) (m + 1) cap) (m + 1) xs) (hi : i < m + 1) (hn : m ≤ 1000) (h1 : ∀ u ∈ xs, u.oneCell' = true) :
    Calls Try.prog 18 #[.slice (some ⟨g, 0, none⟩) ((m + 1 : Nat)) cap, .int .i64 i, .int .i64 ((i : Int) + 1)] w fun e w' => e = .returned (.slice (some ⟨g, 0, none⟩) m cap) ∧
      w'.ownsRow 0 31 3 (.slice (some ⟨g, 0, none⟩) m cap) m (xs.take (i * 3) ++ xs.drop ((i + 1) * 3)) ∧ w.grownBy w' (some g) := by
  obtain ⟨i0, hi0, hz0, hz1, hz2⟩ := info_parts info31
  obtain ⟨hnc, hcm⟩ := own_capn h
  have hcm' : cap ≤ 9223372036854775807 := by unfold maxLen at hcm; omega
  clear hcm
  have hcut := own_cut (zs := zeroMail) (w := w.drew) (show w.drew.ownsRow 0 31 3 _ (m + 1) xs from h) hi rfl
  rw [show m + 1 - 1 = m by omega] at hcut
  have hgr0 : w.grownBy w.drew (some g) := ⟨rfl, rfl, rfl, Nat.le_refl _, fun _ _ _ => rfl⟩
  have hxl := h.1
  have hlen : Hid ((xs.drop ((i + 1) * 3)).length = (m - i) * 3) := by show _ = _; rw [List.length_drop, hxl]; omega
  have hsrc : Hid (∀ j u, (xs.drop ((i + 1) * 3))[j]? = some u → w.drew.cell? ⟨g, (i + 1) * 3 + j, none⟩ = some u) := fun j u hu => by
    have hj := (List.getElem?_eq_some_iff.1 hu).1
    rw [hlen.out] at hj
    rw [List.getElem?_drop] at hu
    exact (h.cellAt _ (by omega)).trans hu
  have h1d : Hid (∀ u ∈ xs.drop ((i + 1) * 3), u.oneCell' = true) := fun u hu => h1 u (List.mem_of_mem_drop hu)
  have hsp : Hid (∀ j, j < (m + 1) * 3 → (w.cell? ⟨g, j, none⟩).isSome = true ∧ w.frozen? ⟨g, j, none⟩ = false) := fun j hj => by
    refine ⟨?_, h.frozenAt j⟩
    rw [h.cellAt j hj, List.getElem?_eq_getElem (by omega)]
    rfl
  have HC := Lib.hid hcut
  clear hcut h h1 hxl
  generalize xs.drop ((i + 1) * 3) = news at hlen hsrc h1d HC
  have hclr : ∀ ty c, (Builtin.clear_ #[42] ty #[.slice (some ⟨g, m * 3, none⟩) 1 c]).run Try.prog (w.drew.setCells g (i * 3) news) = .ok (.tuple #[]) ((w.drew.setCells g (i * 3) news).setCells g (m * 3) zeroMail) :=
    fun ty c => run_clear_mail _ ty g _ c (fun j hj => there_setCells _ _ _ _ _ (hsp.out (m * 3 + j) (by omega)).1) (fun j hj => by rw [World.frozen?_setCells]; exact (hsp.out (m * 3 + j) (by omega)).2)
  have hic : i ≤ cap := by omega
  have hjc : i + 1 ≤ cap := by omega
  have hii : (0 : Int) ≤ (i : Int) + 1 := by omega
  have hin : (i : Int) + 1 ≤ (m : Int) + 1 := by omega
  have hmc : ¬ cap = m := by omega
  have hrest : Hid (i + (m - i) = m) := by show _ = _; omega
  by_cases hcj : cap = i + 1
  · obtain rfl : m = i := by omega
    subst hcj
    have hnil : news = [] := List.eq_nil_of_length_eq_zero (by rw [hlen.out]; omega)
    subst hnil
    rw [Nat.sub_self] at hrest
    have hmm : (m : Int) ≤ (m : Int) + 1 := by omega
    go_enter Try.func18, Try.ntmps18
    go_wp2_with fail
    go_region_law (refine step_append_room rfl (.tmp 22) (.tmp 25) 42 rfl 31 i0 3 Try.underlying42 hi0 hz1 g 0 m (m + 1) (by simp [Act.eval, Act.put]) ⟨g, 0, none⟩ 0 0 [] (by simp [Act.eval, Act.put]) rfl (fun j u hu => by simp at hu) (fun u hu => by simp at hu) (by omega) (fun j hj => by simp at hj) ?_)
    go_wp2
    go_ret
    exact ⟨rfl, HC.out.1, delete_grown hgr0 HC.out.2⟩
  · go_enter Try.func18, Try.ntmps18
    go_wp2_with fail
    go_region_law (refine step_append_room rfl (.tmp 22) (.tmp 25) 42 rfl 31 i0 3 Try.underlying42 hi0 hz1 g 0 i cap (by simp [Act.eval, Act.put]) ⟨g, (i + 1) * 3, none⟩ (m - i) (cap - (i + 1)) news (by simp [Act.eval, Act.put]) hlen.out (fun j u hu => by rw [Addr.add_lit]; exact hsrc.out j u hu) h1d.out (by omega) (fun j hj => by rw [hlen.out] at hj; rw [Nat.zero_add]; exact hsp.out _ (by omega)) ?_)
    rw [hrest.out]
    go_wp2
    go_ret
    exact ⟨rfl, HC.out.1, delete_grown hgr0 HC.out.2⟩
end Go.Proofs.Ytodmhikmjcajnaa
