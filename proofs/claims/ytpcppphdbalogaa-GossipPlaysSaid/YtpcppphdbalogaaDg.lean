/-
  Dice: Below of whatever number, by one contract; the dice's cell beside other blocks; a row that came in, element by element.
-/
import Derived.Test.YtpcppphdbalogaaDf
import Derived.OpenShut
namespace Go.Proofs.Ytpcppphdbalogaa
open Go.RowKit Go.Sort

theorem die_grown {w w' : World} {b c : Nat} {s : Int} (h : Die w b s) (g : w.grownBy w' (some c)) (hne : b ≠ c) : Die w' b s :=
  die_block h (g.block b (die_lt h) (fun e => by injection e with e; exact hne e))
theorem die_new2 (w : World) (o : Obj) (s : Int) : Die ((w.alloc o).alloc (.cells #[.int .u64 s] 65)) (w.heap.size + 1) s := by simpa using die_new (w.alloc o) s
theorem ret_bool {a b : Bool} (h : a = b) : Ending.returned (.bool a) = .returned (.bool b) := by rw [h]

theorem bel_ex (s n : Int) (hn : n ≤ 9223372036854775807) : ∃ x s' : Int, 0 ≤ x ∧ (2 ≤ n → x < n) ∧ (n < 2 → x = 0) ∧ x ≤ 9223372036854775807 ∧ s' = (if n < 2 then s else nx s) ∧ x = (if n < 2 then 0 else vl s % n) ∧
    Hid (∀ (b : Nat) (w : World), Die w b s → Calls Try.prog 25 #[.pointer (some ⟨b, 0, none⟩), .int .i64 n] w fun e w' => e = .returned (.int .i64 x) ∧ Die w' b s' ∧ w.grownBy w' (some b)) := by
  by_cases h : n < 2
  · refine ⟨0, s, by omega, by omega, fun _ => rfl, by omega, by rw [if_pos h], by rw [if_pos h], fun b w hd => (bel_lo n w h _).mono ?_⟩
    rintro e w' ⟨rfl, rfl⟩
    exact ⟨rfl, hd, World.grownBy.refl _ _⟩
  · have h0 : 0 ≤ vl s % n := Int.emod_nonneg _ (by omega)
    have h1 : vl s % n < n := Int.emod_lt_of_pos _ (by omega)
    refine ⟨vl s % n, nx s, h0, fun _ => h1, fun hh => absurd hh h, by omega, by rw [if_neg h], by rw [if_neg h], fun b w hd => (bel_hi b s n w (by omega) hn hd.1 hd.2).mono ?_⟩
    rintro e w' ⟨rfl, rfl⟩
    exact ⟨rfl, die_set hd _, grown_set _ _ _⟩

/-- what the frame's reading of a row says, for the walk: no element, or a row of a block that lies below. -/
theorem row_cases {w : World} {a : Option Addr} {len cap : Nat} {zs : List Int}
    (h : (a = none ∧ len = 0 ∧ cap = 0 ∧ zs = []) ∨ ∃ x, a = some x ∧ len ≤ cap ∧ cap ≤ maxLen ∧ zs.length = cap ∧ (∀ i, i < zs.length → w.cell? (x.add i) = some (.int .i64 (zs.getD i 0))) ∧ ∀ n ∈ zs, (Lit.int .i64 n).wf = true) :
    len ≤ cap ∧ cap ≤ maxLen ∧ (len = 0 ∨ ∃ b off, a = some ⟨b, off, none⟩ ∧ b < w.heap.size ∧ ∀ k, k < len → w.cell? ⟨b, off + k, none⟩ = some (.int .i64 (zs.getD k 0)) ∧ -9223372036854775808 ≤ zs.getD k 0 ∧ zs.getD k 0 ≤ 9223372036854775807) := by
  rcases h with ⟨rfl, rfl, rfl, rfl⟩ | ⟨⟨b, off, spot⟩, rfl, hl, hm, hz, hc, hw⟩
  · exact ⟨Nat.le_refl _, by unfold maxLen; omega, .inl rfl⟩
  · refine ⟨hl, hm, ?_⟩
    rcases Nat.eq_zero_or_pos len with h0 | h0
    · exact .inl h0
    · have c0 := hc 0 (by omega)
      have hsp : spot = none := by simpa [Addr.add] using World.cell?_spot c0
      subst hsp
      refine .inr ⟨b, off, rfl, ?_, fun k hk => ?_⟩
      · have := World.block_lt_of_cell? w _ c0
        rwa [block_of_add] at this
      · have ck := hc k (by omega)
        rw [Addr.add_lit] at ck
        refine ⟨ck, ?_⟩
        have hmem : zs.getD k 0 ∈ zs := by
          have hk' : k < zs.length := by omega
          simp [hk']
        have := bounds_i64 (hw _ hmem)
        exact this
/-- the first 'len' numbers of a row. -/
def rowOf (zs : List Int) (len : Nat) : List Int := (List.range len).map fun k => zs.getD k 0
theorem rowOf_length (zs : List Int) (len : Nat) : (rowOf zs len).length = len := by simp [rowOf]
theorem isl_row {w wr : World} {a : Option Addr} {len : Nat} {zs : List Int} (h : len = 0 ∨ ∃ b off, a = some ⟨b, off, none⟩ ∧ b < w.heap.size ∧ ∀ k, k < len → w.cell? ⟨b, off + k, none⟩ = some (.int .i64 (zs.getD k 0)) ∧ -9223372036854775808 ≤ zs.getD k 0 ∧ zs.getD k 0 ≤ 9223372036854775807)
    (hB : Below w.heap.size w wr) (hl : len ≤ 100) : IsL wr a len (rowOf zs len) := by
  refine ⟨rowOf_length zs len, by omega, ⟨by simp [ints, rowOf], fun h0 => ?_⟩⟩
  obtain ⟨b, off, rfl, hb, hc⟩ := h.resolve_left (by omega)
  refine ⟨_, rfl, Nat.lt_of_lt_of_le hb hB.size, fun j u hu => ?_⟩
  have hj : j < len := by
    have := (List.getElem?_eq_some_iff.1 hu).1
    simpa [ints, rowOf] using this
  rw [Addr.add_lit]
  refine (hB.cell (p := ⟨b, off + j, none⟩) hb).trans ((hc j hj).1.trans ?_)
  rw [← hu]
  simp [ints, rowOf, hj]
theorem own_slice {w : World} {base n : Nat} {v : Value} {xs : List Value} (h : w.ownsRow base 3 1 v n xs) : ∃ A c, v = .slice A n c := by
  rcases h.2 with ⟨rfl, rfl⟩ | ⟨g, cap, cur, hv, _⟩
  · exact ⟨_, _, rfl⟩
  · exact ⟨_, _, hv⟩
theorem own_cell {w : World} {base g c : Nat} {L : List Int} {n : Nat} (h : w.ownsRow base 3 1 (.slice (some ⟨g, 0, none⟩) n c) n (ints L)) {k : Nat} (hk : k < n) : w.cell? ⟨g, k, none⟩ = some (.int .i64 (L.getD k 0)) := by
  have hl := h.1
  simp [ints] at hl
  rw [h.cellAt k (by omega)]
  have : k < L.length := by omega
  simp [ints, this]
end Go.Proofs.Ytpcppphdbalogaa
