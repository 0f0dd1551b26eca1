/-
  Fetch, the document's table as a law holds it.
-/
import Derived.Test.YthjgmnafbikihaaRl
set_option linter.unusedVariables false
set_option linter.unusedSimpArgs false
namespace Go.Proofs.Ythjgmnafbikihaa
open Go.RowKit Go.Maps Go.Sort

theorem own_tab_ne {w : World} {b m n e size : Nat} {v : Value} {xs : List Value} {E : En} (h : w.ownsRow m e size v n xs) (ht : Tab w b E) : v.ownBlock ≠ some b := by
  obtain ⟨D, ⟨es, c, hb, _⟩, _⟩ := ht
  rcases h.2 with ⟨rfl, _⟩ | ⟨g', cap, cur, rfl, _, hh, _⟩
  · simp [Value.ownBlock]
  · intro he
    have : g' = b := by simpa [Value.ownBlock] using he
    subst this
    rw [hb] at hh
    injection hh with hh
    cases hh
theorem own_two {w w' : World} {b d m n e size : Nat} {v : Value} {xs : List Value} (h : w.ownsRow m e size v n xs) (t : Two w w' b d) (h1 : v.ownBlock ≠ some b) (h2 : v.ownBlock ≠ some d) : w'.ownsRow m e size v n xs := by
  refine ⟨h.1, ?_⟩
  rcases h.2 with h0 | ⟨g, cap, cur, rfl, hm, hh, r⟩
  · exact .inl h0
  · refine .inr ⟨g, cap, cur, rfl, hm, ?_, r⟩
    have hg : g < w.heap.size := (Array.getElem?_eq_some_iff.1 hh).1
    rw [t.block g hg (fun e => h1 (by rw [e]; rfl)) (fun e => h2 (by rw [e]; rfl))]
    exact hh
/-- what is asked for, as the document holds it. -/
structure TQ (w : World) (gt : Nat) (base most budget : Int) (E : En) : Prop where
  ex : ∃ A c m, Blk w gt 48 (tcells base most budget (.slice A E.length c)) ∧ w.ownsRow m 78 68 (.slice A E.length c) E.length (qrow E)
section
variable {w w' : World} {gt b d : Nat} {base most budget : Int} {E E' : En}
theorem TQ.lt (h : TQ w gt base most budget E) : gt < w.heap.size := by obtain ⟨A, c, m, h1, _⟩ := h.ex; exact h1.lt
theorem TQ.below (h : TQ w gt base most budget E) (hB : Below w.heap.size w w') : TQ w' gt base most budget E := by
  obtain ⟨A, c, m, h1, h2⟩ := h.ex
  exact ⟨A, c, m, h1.below hB h1.lt, h2.kept (grown_below hB none) (own_ne fun k e => by cases e)⟩
theorem TQ.tab (h : TQ w gt base most budget E) (ht : Tab w b E') (hg : w.grownBy w' (some b)) : TQ w' gt base most budget E := by
  obtain ⟨A, c, m, h1, h2⟩ := h.ex
  exact ⟨A, c, m, h1.grown hg (fun e => tab_ne ht h1 (by injection e with e; exact e.symm)), h2.kept hg (.inr (own_tab_ne h2 ht))⟩
theorem TQ.two (h : TQ w gt base most budget E) (ht : Tab w b E') {s : Int} (hd : Blk w d 67 #[.int .u64 s]) (t : Two w w' b d) : TQ w' gt base most budget E := by
  obtain ⟨A, c, m, h1, h2⟩ := h.ex
  exact ⟨A, c, m, t.blk h1 (fun e => tab_ne ht h1 e.symm) (h1.ne_ hd (by decide)), own_two h2 t (own_tab_ne h2 ht) (own_blk_ne h2 hd (by decide))⟩
theorem TQ.set {A : Option Addr} {c m : Nat} {cs : Array Value} (hb : Blk w gt 48 cs) (hb' : Blk w' gt 48 (tcells base most budget (.slice A E.length c))) (hg : w.grownBy w' (some gt)) (ho : w.ownsRow m 78 68 (.slice A E.length c) E.length (qrow E)) : TQ w' gt base most budget E :=
  ⟨A, c, m, hb', ho.kept hg (.inr (own_blk_ne ho hb (by decide)))⟩
end
theorem act_parts {w : World} {b o : Nat} {kd : Int} {x : WS} (h : w.rangeAt b o (.int .i64 kd :: encS x)) : w.cell? ⟨b, o, none⟩ = some (.int .i64 kd) ∧ w.rangeAt b (o + 1) (encS x) := by
  refine ⟨h 0 _ rfl, fun j v hv => ?_⟩
  rw [Nat.add_assoc]
  exact h (1 + j) v (by rw [Nat.add_comm, List.getElem?_cons_succ]; exact hv)
theorem hd_grown {w0 w w' : World} {g b d k : Nat} {base most budget : Int} {E : En} {s : Int} {cs : Array Value} {t : TypeId} (h : HD w0 w g b d base most budget E s) (hk : Blk w k t cs) (h65 : t ≠ 65) (h67 : t ≠ 67) (hg : w.grownBy w' (some k)) (h0 : w0.heap.size ≤ k) : HD w0 w' g b d base most budget E s := by
  refine ⟨⟨⟨h.ht.tb.blk.grown hg (fun e => ?_), h.ht.tb.tab.kept hg (fun e => ?_), h.ht.tb.srt⟩, h.ht.ok, h.ht.nk, h.ht.g0, h.ht.b0, h.ht.below.grown hg h.ht.below.size (fun j e => by injection e with e; omega)⟩, h.die.grown hg (fun e => ?_), h.d0⟩
  · injection e with e
    exact (hk.ne_ h.ht.tb.blk h65) e.symm
  · injection e with e
    exact tab_ne h.ht.tb.tab hk e
  · injection e with e
    exact (hk.ne_ h.die h67) e.symm
end Go.Proofs.Ythjgmnafbikihaa
