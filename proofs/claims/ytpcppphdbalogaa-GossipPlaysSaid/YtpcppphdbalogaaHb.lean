/-
  Gossip: the reference's New, Same and Seen.
-/
import Derived.Test.YtpcppphdbalogaaHa
import Derived.DeepKeys
namespace Go.Proofs.Ytpcppphdbalogaa
open Go.RowKit Go.Sort Go.Maps

theorem rnew_ok (me many fan s : Int) (w : World) (h : newOk me many fan) :
    Calls Try.prog 9 #[.int .i64 me, .int .i64 many, .int .i64 fan, .int .u64 s] w fun e w' => e = .returned (.tuple #[.agg (refCells me many fan s (.slice none 0 0)), .int .i64 0]) ∧ Below w.heap.size w w' := by
  obtain ⟨h1, h2, h3, h4, h5, h6⟩ := h
  go_enter Try.func9, Try.ntmps9
  go_wp2
  exact bodyPost_ret (v := .tuple #[.agg (refCells me many fan s (.slice none 0 0)), .int .i64 0]) (by simp [results, Try.results9, go_sem, refCells]) rfl ⟨rfl, by
    repeat first
      | exact (Below.refl _ w).alloc (Nat.le_refl _) _
      | refine Below.setCell ?_ (by simp) _⟩

theorem same_yes (n c c2 : Nat) (a b : Option Addr) (zs : List Int) (w : World) (h1 : IsL w a n zs) (h2 : IsL w b n zs) (hn : n ≤ 1000) :
    Calls Try.prog 12 #[.slice a n c, .slice b n c2] w fun e w' => e = .returned (.bool true) ∧ Below w.heap.size w w' := by
  have H1 := Lib.hid h1
  have H2 := Lib.hid h2
  clear h1 h2
  go_enter Try.func12, Try.ntmps12
  go_wp2_with fail
  go_loopw [5] (fun iv wr => ∃ i : Nat, i ≤ n ∧ iv = .int .i64 i ∧ Below w.heap.size w wr)
    (fun iv _ => n - (intOf iv).toNat)
  case atStart => exact ⟨0, Nat.zero_le _, rfl, Below.refl _ _⟩
  case round =>
    obtain ⟨i, hin, rfl, hB⟩ := hrel
    by_cases hlt : i < n
    · obtain ⟨b1, o1, rfl, hb1, hc1⟩ := isl_cell H1.out hlt
      obtain ⟨b2, o2, rfl, hb2, hc2⟩ := isl_cell H2.out hlt
      have k1 := (hB.cell (p := ⟨b1, o1 + i, none⟩) hb1).trans hc1
      have k2 := (hB.cell (p := ⟨b2, o2 + i, none⟩) hb2).trans hc2
      have HB := Lib.hid hB
      clear hc1 hc2 hB
      generalize zs.getD i 0 = x at k1 k2
      go_wp2_with fail
      go_quiet (fail)
      go_wp2_with fail
      go_roundw
      case rel => exact ⟨i + 1, by omega, by go_num, below_dN HB.out _⟩
      case measure => simp [intOf]; omega
    · obtain rfl : i = n := by omega
      go_wp2_with fail
      go_ret
      exact ⟨rfl, hB⟩

theorem eq36 {xs ys : List Int} (hx : IsH xs) (hy : IsH ys) (w : World) : (binOp .eql 36 (hv xs) (hv ys)).run Try.prog w = .ok (.bool (decide (xs = ys))) w := by
  obtain ⟨kx, hkx⟩ := keyOf_hv hx
  obtain ⟨ky, hky⟩ := keyOf_hv hy
  obtain ⟨r, hr, hiff⟩ := run_equal_deep (P := Try.prog) w (m := 3) (by omega) (k := 36) (by kernel_rfl) (by kernel_rfl) hkx hky
  have e : r = decide (xs = ys) := by
    rw [Bool.eq_iff_iff, hiff, decide_eq_true_eq]
    constructor
    · intro e
      exact hv_inj (law36.inj (by rw [hkx, e]) hky)
    · rintro rfl
      rw [hkx] at hky
      injection hky
  simp only [binOp]
  rw [e] at hr
  simp [hv, hr] at hr ⊢

/-- the cells of a row of arrays. -/
def tcells (l : List (List Int)) : List Value := l.flatMap fun zs => zs.map (Value.int .u8)
end Go.Proofs.Ytpcppphdbalogaa
