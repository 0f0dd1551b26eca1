/-
  Fetch: a tick, and the document's, with the numbers of those told laid ahead.
-/
import Derived.Test.YthjgmnafbikihaaRm
set_option linter.unusedVariables false
set_option linter.unusedSimpArgs false
namespace Go.Proofs.Ythjgmnafbikihaa
open Go.RowKit Go.Maps Go.Sort

theorem hd_tick_n {w0 w : World} {g b d : Nat} {base most budget : Int} {E : En} {s : Int} (h : HD w0 w g b d base most budget E s) (hE : E.length ≤ 1000) (t : Tk) (ht : tick base most budget E s = t) (n1 n2 : Nat) (h1 : t.asks.length = n1) (h2 : t.lost.length = n2) :
    Calls Try.prog 12 #[.pointer (some ⟨g, 0, none⟩), .pointer (some ⟨d, 0, none⟩)] w fun e w' => ∃ A c A' c' m, e = .returned (.tuple #[.slice A n1 c, .slice A' n2 c']) ∧
      w'.ownsRow m 35 66 (.slice A n1 c) n1 (wrow t.asks) ∧ w'.ownsRow m 35 66 (.slice A' n2 c') n2 (wrow t.lost) ∧ HD w0 w' g b d base most budget t.P t.s ∧ Two w w' b d := by
  refine (hd_tick h hE t ht).mono ?_
  rintro e w' ⟨A, c, A', c', m, rfl, o1, o2, _, hd, h2'⟩
  rw [h1] at o1 ⊢
  rw [h2] at o2 ⊢
  exact ⟨A, c, A', c', m, rfl, o1, o2, hd, h2'⟩
theorem rtick_n (base most budget : Int) (A : Option Addr) (n c m0 : Nat) (E : En) (s : Int) (w : World) (h : w.ownsRow m0 78 68 (.slice A n c) n (qrow E)) (hn : E.length = n) (hm : n ≤ 100000) (hN : newOk base most budget) (hOk : OkE budget E) (t : Tk) (ht : tick base most budget E s = t) (n1 n2 : Nat) (h1 : t.asks.length = n1) (h2 : t.lost.length = n2) :
    Calls Try.prog 19 #[tv base most budget (.slice A n c), .int .u64 s] w fun e w' => ∃ A' c' m' A2 c2 B2 d2 AE BE, e = .returned (.tuple #[tv base most budget (.slice A' t.P.length c'), .int .u64 t.s, .slice A2 n1 c2, .slice B2 n2 d2]) ∧
      w'.ownsRow m' 78 68 (.slice A' t.P.length c') t.P.length (qrow t.P) ∧
      w'.ownsRow m' 78 68 (.slice A2 n1 c2) n1 (qrow AE) ∧ keysE AE = t.asks ∧ AE.length = n1 ∧
      w'.ownsRow m' 78 68 (.slice B2 n2 d2) n2 (qrow BE) ∧ keysE BE = t.lost ∧ BE.length = n2 ∧ Below w.heap.size w w' := by
  refine (rtick_any base most budget A n c m0 E s w h hn hm hN hOk).mono ?_
  rintro e w' ⟨A', c', m', A2, c2, B2, d2, AE, BE, rfl, o1, o2, ha, o3, hb, hB⟩
  rw [ht] at o1 ha hb ⊢
  have e1 : AE.length = n1 := by rw [← h1, ← ha]; simp [keysE]
  have e2 : BE.length = n2 := by rw [← h2, ← hb]; simp [keysE]
  rw [e1] at o2 ⊢
  rw [e2] at o3 ⊢
  exact ⟨A', c', m', A2, c2, B2, d2, AE, BE, rfl, o1, o2, ha, e1, o3, hb, e2, hB⟩
end Go.Proofs.Ythjgmnafbikihaa
