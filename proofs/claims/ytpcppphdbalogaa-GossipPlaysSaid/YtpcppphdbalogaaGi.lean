/-
  Gossip: what the laws share: how many can be told at most; who was counted.
-/
import Derived.Test.YtpcppphdbalogaaGh
namespace Go.Proofs.Ytpcppphdbalogaa
open Go.RowKit Go.Sort

theorem nodup_bound : ∀ (m : Nat) (P : List Int), P.Nodup → (∀ x ∈ P, 0 ≤ x ∧ x < (m : Int)) → P.length ≤ m
  | 0, P, _, h => by
    cases P with
    | nil => simp
    | cons x P => have := h x (by simp); omega
  | m + 1, P, hn, h => by
    by_cases hm : (m : Int) ∈ P
    · have h1 := nodup_bound m (P.erase m) (hn.erase _) (fun x hx => by
        have h2 := (hn.mem_erase_iff).1 hx
        have h3 := h x h2.2
        have h4 : x ≠ (m : Int) := h2.1
        omega)
      rw [List.length_erase_of_mem hm] at h1
      omega
    · have h1 := nodup_bound m P hn (fun x hx => by
        have h3 := h x hx
        have h4 : x ≠ (m : Int) := fun e => hm (e ▸ hx)
        omega)
      omega
theorem oth_bound (m : Nat) (me : Int) (may : Int → Bool) (l : List Int) : (oth m me may l).length ≤ m :=
  nodup_bound m _ (oth_nodup _ _ _ _) (fun x hx => by have := (oth_mem _ _ _ _ _).1 hx; exact ⟨this.2.1, this.2.2.1⟩)
theorem want_all (m : Nat) (me : Int) (may : Int → Bool) (l : List Int) : Dp.want (oth m me may l) m = (oth m me may l).length := by
  have := oth_bound m me may l
  unfold Dp.want
  omega

/-- the auditor, and the row of those who were counted. -/
structure Cnt (w wr : World) (B sb g d tb N m : Nat) (me fan s : Int) (T : List Int → Bool) (P : List Int) : Prop where
  seen : wr.ownsRow B 4 1 (.slice (some ⟨sb, 0, none⟩) m m) m (bools (seenOf 1 P m))
  gos : Gos wr g d tb N m me fan s T
  below : Below w.heap.size w wr
  b0 : w.heap.size ≤ sb
  gs : g ≠ sb
  ds : d ≠ sb
  ts : tb ≠ sb
  d0 : w.heap.size ≤ d
  t0 : w.heap.size ≤ tb

section
variable {w wr : World} {B sb g d tb N m : Nat} {me fan s : Int} {T : List Int → Bool} {P : List Int}
theorem Cnt.set_ {q : Nat} (h : Cnt w wr B sb g d tb N m me fan s T P) : Cnt w (wr.setCell ⟨sb, q, none⟩ (.bool true)) B sb g d tb N m me fan s T (P ++ [(q : Int)]) := by
  obtain ⟨s1, s2⟩ := bools_set (d := 1) (q := q) (p := (q : Int)) h.seen (by omega) (by omega)
  have ne : ∀ {k : Nat}, k ≠ sb → some k ≠ some sb := fun hk e => hk (by injection e)
  exact ⟨s1, ⟨h.gos.blk.grown s2 (ne h.gs), die_block h.gos.die (s2.block d (die_lt h.gos.die) (ne h.ds)), h.gos.tld.kept s2 (ne h.ts)⟩, below_of_grown h.below s2 h.b0, h.b0, h.gs, h.ds, h.ts, h.d0, h.t0⟩
theorem Cnt.die_ {w2 : World} {s' : Int} (h : Cnt w wr B sb g d tb N m me fan s T P) (hg : Gos w2 g d tb N m me fan s' T) (hr : wr.grownBy w2 (some d)) : Cnt w w2 B sb g d tb N m me fan s' T P :=
  ⟨h.seen.kept hr (.inr (fun e => h.ds (by simp [Value.ownBlock] at e; exact e.symm))), hg, below_of_grown h.below hr h.d0, h.b0, h.gs, h.ds, h.ts, h.d0, h.t0⟩
theorem Cnt.tld_ {w2 : World} {T' : List Int → Bool} {N' : Nat} (h : Cnt w wr B sb g d tb N m me fan s T P) (hg : Gos w2 g d tb N' m me fan s T') (hr : wr.grownBy w2 (some tb)) : Cnt w w2 B sb g d tb N' m me fan s T' P :=
  ⟨h.seen.kept hr (.inr (fun e => h.ts (by simp [Value.ownBlock] at e; exact e.symm))), hg, below_of_grown h.below hr h.t0, h.b0, h.gs, h.ds, h.ts, h.d0, h.t0⟩
theorem Cnt.all {w2 : World} (h : Cnt w wr B sb g d tb N m me fan s T P) (hB : Below wr.heap.size wr w2) : Cnt w w2 B sb g d tb N m me fan s T P :=
  ⟨h.seen.kept (grown_below hB none) (.inr (by simp [Value.ownBlock])), h.gos.all hB, h.below.trans (hB.mono h.below.size), h.b0, h.gs, h.ds, h.ts, h.d0, h.t0⟩
end
end Go.Proofs.Ytpcppphdbalogaa
