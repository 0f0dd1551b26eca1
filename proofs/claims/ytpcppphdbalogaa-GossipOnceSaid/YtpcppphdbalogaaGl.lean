/-
  Gossip: the rows of GossipOnce side by side.
-/
import Derived.Test.YtpcppphdbalogaaGk
namespace Go.Proofs.Ytpcppphdbalogaa
open Go.RowKit Go.Sort

section
variable {w wr : World} {B sb r g d tb N m : Nat} {me fan s : Int} {T : List Int → Bool} {P : List Int}
theorem Cnt2.far {w2 : World} {x : Nat} (h : Cnt2 w wr B sb r g d tb N m me fan s T P) (hg : wr.grownBy w2 (some x)) (h1 : x ≠ sb) (h2 : x ≠ g) (h3 : x ≠ d) (h4 : x ≠ tb) (h5 : w.heap.size ≤ x) : Cnt2 w w2 B sb r g d tb N m me fan s T P := by
  have ne : ∀ {k : Nat}, x ≠ k → some k ≠ some x := fun hk e => hk (by injection e with e; exact e.symm)
  exact ⟨h.seen.kept hg (.inr (ne h1)), ⟨h.gos.blk.grown hg (ne h2), die_block h.gos.die (hg.block d (die_lt h.gos.die) (ne h3)), h.gos.tld.kept hg (ne h4)⟩, below_of_grown h.below hg h5, h.b0, h.gs, h.ds, h.ts, h.d0, h.t0⟩
end

/-- the auditor, what was told, and the row of all. -/
structure Onc (w wr : World) (B sb g d tb N m : Nat) (me fan s : Int) (T : List Int → Bool) (P : List Int) (A : Option Addr) (c : Nat) (l : List Int) : Prop where
  cnt : Cnt2 w wr B sb 256 g d tb N m me fan s T P
  all : wr.ownsRow B 3 1 (.slice A l.length c) l.length (ints l)
  dB : d < B
  tB : tb < B

section
variable {w wr : World} {B sb g d tb N m c : Nat} {me fan s : Int} {T : List Int → Bool} {P l : List Int} {A : Option Addr}
theorem Onc.far {w2 : World} {x : Nat} (h : Onc w wr B sb g d tb N m me fan s T P A c l) (hg : wr.grownBy w2 (some x)) (h1 : x ≠ sb) (h2 : x ≠ g) (h3 : x ≠ d) (h4 : x ≠ tb) (h5 : w.heap.size ≤ x)
    (h6 : (Value.slice A l.length c).ownBlock ≠ some x) : Onc w w2 B sb g d tb N m me fan s T P A c l :=
  ⟨h.cnt.far hg h1 h2 h3 h4 h5, h.all.kept hg (.inr h6), h.dB, h.tB⟩
theorem Onc.die_ {w2 : World} {s' : Int} (h : Onc w wr B sb g d tb N m me fan s T P A c l) (hg : Gos w2 g d tb N m me fan s' T) (hr : wr.grownBy w2 (some d)) : Onc w w2 B sb g d tb N m me fan s' T P A c l :=
  ⟨h.cnt.die_ hg hr, h.all.kept hr (row_ne h.all h.dB), h.dB, h.tB⟩
theorem Onc.tld_ {w2 : World} {T' : List Int → Bool} {N' : Nat} (h : Onc w wr B sb g d tb N m me fan s T P A c l) (hg : Gos w2 g d tb N' m me fan s T') (hr : wr.grownBy w2 (some tb)) : Onc w w2 B sb g d tb N' m me fan s T' P A c l :=
  ⟨h.cnt.tld_ hg hr, h.all.kept hr (row_ne h.all h.tB), h.dB, h.tB⟩
theorem Onc.all_ {w2 : World} (h : Onc w wr B sb g d tb N m me fan s T P A c l) (hB : Below wr.heap.size wr w2) : Onc w w2 B sb g d tb N m me fan s T P A c l :=
  ⟨h.cnt.all hB, own_all h.all hB, h.dB, h.tB⟩
theorem Onc.set_ (q : Nat) (h : Onc w wr B sb g d tb N m me fan s T P A c l) : Onc w (wr.setCell ⟨sb, q, none⟩ (.bool true)) B sb g d tb N m me fan s T (P ++ [(q : Int)]) A c l :=
  ⟨h.cnt.set_, h.all.kept (bools_set (d := 1) (q := q) (p := (q : Int)) h.cnt.seen (by omega) (by omega)).2 (own_type_ne h.all h.cnt.seen (by decide)), h.dB, h.tB⟩
end
theorem own_base4 {w : World} {base base' n : Nat} {v : Value} {xs : List Value} (h : w.ownsRow base 4 1 v n xs) (hb : base' ≤ base) : w.ownsRow base' 4 1 v n xs := by
  refine ⟨h.1, ?_⟩
  rcases h.2 with h' | ⟨g, cap, cur, hv, hg, r⟩
  · exact .inl h'
  · exact .inr ⟨g, cap, cur, hv, by omega, r⟩
theorem mults_of {m : Nat} {x : Int} (h0 : 0 ≤ x) (h1 : x < (m : Int)) : x ∈ mults 1 m := by
  simp only [mults, List.mem_map, List.mem_range]
  exact ⟨x.toNat, by omega, by omega⟩
theorem flr_len (m : Nat) (me : Int) (T : List Int → Bool) (zs : List Int) (b : Bool) (hb : T zs = b) (h0 : 0 ≤ me) (h1 : me < (m : Int)) :
    (b = true → (flr m me (-5) T zs (dbl (m + 2))).length = 0) ∧ (b = false → (flr m me (-5) T zs (dbl (m + 2))).length = m - 1) := by
  refine ⟨fun e => ?_, fun e => ?_⟩
  · subst e; unfold flr; rw [if_pos hb]; rfl
  · subst e; unfold flr; rw [if_neg (by simp [hb])]
    exact all_len m me _ h0 h1 (fun x hx => by simp; omega)
end Go.Proofs.Ytpcppphdbalogaa
