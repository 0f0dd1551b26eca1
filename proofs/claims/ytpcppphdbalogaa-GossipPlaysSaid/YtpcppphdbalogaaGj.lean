/-
  Gossip: the auditor beside a row of its own length; bytes that came in; who is told at a flood of six.
-/
import Derived.Test.YtpcppphdbalogaaGi
namespace Go.Proofs.Ytpcppphdbalogaa
open Go.RowKit Go.Sort

/-- the auditor, and the row of those who were counted. -/
structure Cnt2 (w wr : World) (B sb r g d tb N m : Nat) (me fan s : Int) (T : List Int → Bool) (P : List Int) : Prop where
  seen : wr.ownsRow B 4 1 (.slice (some ⟨sb, 0, none⟩) r r) r (bools (seenOf 1 P r))
  gos : Gos wr g d tb N m me fan s T
  below : Below w.heap.size w wr
  b0 : w.heap.size ≤ sb
  gs : g ≠ sb
  ds : d ≠ sb
  ts : tb ≠ sb
  d0 : w.heap.size ≤ d
  t0 : w.heap.size ≤ tb

section
variable {w wr : World} {B sb r g d tb N m : Nat} {me fan s : Int} {T : List Int → Bool} {P : List Int}
theorem Cnt2.set_ {q : Nat} (h : Cnt2 w wr B sb r g d tb N m me fan s T P) : Cnt2 w (wr.setCell ⟨sb, q, none⟩ (.bool true)) B sb r g d tb N m me fan s T (P ++ [(q : Int)]) := by
  obtain ⟨s1, s2⟩ := bools_set (d := 1) (q := q) (p := (q : Int)) h.seen (by omega) (by omega)
  have ne : ∀ {k : Nat}, k ≠ sb → some k ≠ some sb := fun hk e => hk (by injection e)
  exact ⟨s1, ⟨h.gos.blk.grown s2 (ne h.gs), die_block h.gos.die (s2.block d (die_lt h.gos.die) (ne h.ds)), h.gos.tld.kept s2 (ne h.ts)⟩, below_of_grown h.below s2 h.b0, h.b0, h.gs, h.ds, h.ts, h.d0, h.t0⟩
theorem Cnt2.die_ {w2 : World} {s' : Int} (h : Cnt2 w wr B sb r g d tb N m me fan s T P) (hg : Gos w2 g d tb N m me fan s' T) (hr : wr.grownBy w2 (some d)) : Cnt2 w w2 B sb r g d tb N m me fan s' T P :=
  ⟨h.seen.kept hr (.inr (fun e => h.ds (by simp [Value.ownBlock] at e; exact e.symm))), hg, below_of_grown h.below hr h.d0, h.b0, h.gs, h.ds, h.ts, h.d0, h.t0⟩
theorem Cnt2.tld_ {w2 : World} {T' : List Int → Bool} {N' : Nat} (h : Cnt2 w wr B sb r g d tb N m me fan s T P) (hg : Gos w2 g d tb N' m me fan s T') (hr : wr.grownBy w2 (some tb)) : Cnt2 w w2 B sb r g d tb N' m me fan s T' P :=
  ⟨h.seen.kept hr (.inr (fun e => h.ts (by simp [Value.ownBlock] at e; exact e.symm))), hg, below_of_grown h.below hr h.t0, h.b0, h.gs, h.ds, h.ts, h.d0, h.t0⟩
theorem Cnt2.all {w2 : World} (h : Cnt2 w wr B sb r g d tb N m me fan s T P) (hB : Below wr.heap.size wr w2) : Cnt2 w w2 B sb r g d tb N m me fan s T P :=
  ⟨h.seen.kept (grown_below hB none) (.inr (by simp [Value.ownBlock])), h.gos.all hB, h.below.trans (hB.mono h.below.size), h.b0, h.gs, h.ds, h.ts, h.d0, h.t0⟩
end
theorem own_all {w w' : World} {base n : Nat} {v : Value} {xs : List Value} (h : w.ownsRow base 3 1 v n xs) (hB : Below w.heap.size w w') : w'.ownsRow base 3 1 v n xs :=
  h.kept (grown_below hB none) (by cases hv : v.ownBlock with
    | none => exact .inl rfl
    | some k => exact .inr (fun e => by cases e))
theorem row_cases8 {w : World} {a : Option Addr} {len cap : Nat} {zs : List Int}
    (h : (a = none ∧ len = 0 ∧ cap = 0 ∧ zs = []) ∨ ∃ x, a = some x ∧ len ≤ cap ∧ cap ≤ maxLen ∧ zs.length = cap ∧ (∀ i, i < zs.length → w.cell? (x.add i) = some (.int .u8 (zs.getD i 0))) ∧ ∀ n ∈ zs, (Lit.int .u8 n).wf = true) :
    len ≤ cap ∧ cap ≤ maxLen ∧ (len = 0 ∨ ∃ b off, a = some ⟨b, off, none⟩ ∧ b < w.heap.size ∧ ∀ k, k < len → w.cell? ⟨b, off + k, none⟩ = some (.int .u8 (zs.getD k 0)) ∧ (Lit.int .u8 (zs.getD k 0)).wf = true) := by
  rcases h with ⟨rfl, rfl, rfl, rfl⟩ | ⟨⟨b, off, spot⟩, rfl, hl, hm, hz, hc, hw⟩
  · exact ⟨Nat.le_refl _, by unfold maxLen; omega, .inl rfl⟩
  · refine ⟨hl, hm, ?_⟩
    rcases Nat.eq_zero_or_pos len with h0 | h0
    · exact .inl h0
    · have c0 := hc 0 (by omega)
      have hsp : spot = none := by simpa [Addr.add] using World.cell?_spot c0
      subst hsp
      refine .inr ⟨b, off, rfl, ?_, fun k hk => ?_⟩
      · have := World.block_lt_of_cell? w _ c0
        rwa [block_of_add] at this
      · have ck := hc k (by omega)
        rw [Addr.add_lit] at ck
        refine ⟨ck, hw _ ?_⟩
        have hk' : k < zs.length := by omega
        simp [hk']

/-- which bytes were told, and the map. -/
def Knows (T : List Int → Bool) (P : List Int) : Prop := ∀ x, T (one x) = decide (x ∈ P)
theorem knows_nil : Knows (fun _ => false) [] := fun x => by simp
theorem knows_put {T : List Int → Bool} {P : List Int} (h : Knows T P) (y : Int) : Knows (put T (one y)) (P ++ [y]) := fun x => by
  unfold put
  rw [h x]
  by_cases e : x = y
  · subst e; simp
  · have : one x ≠ one y := one_ne e
    simp [e, this]

theorem six (f : Int) (h0 : 0 ≤ f) (h6 : f < 7) : (oth ((6 : Nat) : Int) 0 (fun k => k != f) [0, 1, 2, 3, 4, 5]).length = if 0 < f ∧ f < 6 then 4 else 5 := by
  have : f = 0 ∨ f = 1 ∨ f = 2 ∨ f = 3 ∨ f = 4 ∨ f = 5 ∨ f = 6 := by omega
  rcases this with rfl | rfl | rfl | rfl | rfl | rfl | rfl <;> decide
theorem six_flr (f : Int) (h0 : 0 ≤ f) (h6 : f < 7) (T : List Int → Bool) (zs : List Int) (b : Bool) (hb : T zs = b) :
    ∃ R : List Int, flr 6 0 f T zs [0, 1, 2, 3, 4, 5] = R ∧ (b = true → R.length = 0) ∧ (b = false → (0 < f ∧ f < 6 → R.length = 4) ∧ (¬ (0 < f ∧ f < 6) → R.length = 5)) ∧ ∀ x ∈ R, x ≠ f ∧ x ≠ 0 := by
  refine ⟨_, rfl, ?_, ?_, ?_⟩
  · intro e; subst e; unfold flr; rw [if_pos hb]; rfl
  · intro e; subst e; unfold flr; rw [if_neg (by simp [hb]), six f h0 h6]
    exact ⟨fun h => by rw [if_pos h], fun h => by rw [if_neg h]⟩
  · intro x hx
    unfold flr at hx
    split at hx
    · simp at hx
    · have := (oth_mem _ _ _ _ _).1 hx
      exact ⟨by simpa using this.2.2.2.2, this.2.2.2.1⟩
end Go.Proofs.Ytpcppphdbalogaa
