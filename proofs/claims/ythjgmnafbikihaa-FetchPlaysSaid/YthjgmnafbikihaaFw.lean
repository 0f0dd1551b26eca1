/-
  Fetch: one want of a row of wants; loads and comparisons of wants whole.
-/
import Derived.Test.YthjgmnafbikihaaFv
set_option linter.unusedVariables false
set_option linter.unusedSimpArgs false
namespace Go.Proofs.Ythjgmnafbikihaa
open Go.RowKit Go.Maps Go.Sort

theorem row_at {w : World} {base n c i : Nat} {A : Option Addr} {ss : List WS} (h : w.ownsRow base 35 66 (.slice A n c) n (wrow ss)) (hn : ss.length = n) (hi : i < n) :
    ∃ kb, A = some ⟨kb, 0, none⟩ ∧ kb < w.heap.size ∧ w.rangeAt kb (i * 66) (encS (ss.getD i default)) := by
  rcases h.2 with ⟨hv, h0⟩ | ⟨kb, cap, cur, hv, _, hb, r1, r2, r3, r4⟩
  · omega
  · injection hv with hA
    refine ⟨kb, hA, (Array.getElem?_eq_some_iff.1 hb).1, fun j v hv => ?_⟩
    have hj : j < 66 := by
      have := (List.getElem?_eq_some_iff.1 hv).1
      have h1 : (encS (ss.getD i default)).length = 66 := wcells_length (ss.getD i default).2
      omega
    have e1 := wrow_get (ss := ss) (i := i) (show i < ss.length by omega) hj
    rw [hv, ← r4, List.getElem?_take_of_lt (show i * 66 + j < n * 66 by omega), Array.getElem?_toList] at e1
    simp [World.cell?, hb, e1]
theorem size_at {w : World} {b o : Nat} {x : WS} (h : w.rangeAt b o (encS x)) : w.cell? ⟨b, o, none⟩ = some (.int .u64 x.1.1.1) := h 0 _ rfl

theorem exec_load {o : Oper} {a : Act} {t : TypeId} {x : Operand} {addr v : Value} {w : World} (ho : o.op = .load t x) (hx : a.eval x = addr) (hl : (Instr.loadAt t addr).run Try.prog w = .ok v w) : (execOp a.eval o).run Try.prog w = .ok (.value v) w := by
  unfold execOp
  simp only [ho, hx, Sem.run_bind, hl, Result.andThen_ok]
  rfl
theorem exec_eql {o : Oper} {a : Act} {u v : Operand} {x y : WS} {cs ds : Array Value} (ho : o.op = .binOp .eql 35 u v 35) (hu : a.eval u = .agg cs) (hv : a.eval v = .agg ds) (hx : wv x = .agg cs) (hy : wv y = .agg ds) (q : Bool) (hq : decide (x = y) = q) (w : World) :
    (execOp a.eval o).run Try.prog w = .ok (.value (.bool q)) w := by
  have h := eql_wv x y w
  rw [hx, hy, hq] at h
  unfold execOp
  simp only [ho, hu, hv, Sem.run_bind, run_eqGuard_agg _ _ _ _ _ _ _ guard35, Result.andThen_ok, h]
  rfl
theorem exec_neq {o : Oper} {a : Act} {u v : Operand} {x y : WS} {cs ds : Array Value} (ho : o.op = .binOp .neq 35 u v 35) (hu : a.eval u = .agg cs) (hv : a.eval v = .agg ds) (hx : wv x = .agg cs) (hy : wv y = .agg ds) (q : Bool) (hq : (!decide (x = y)) = q) (w : World) :
    (execOp a.eval o).run Try.prog w = .ok (.value (.bool q)) w := by
  have h := neq_wv x y w
  rw [hx, hy, hq] at h
  unfold execOp
  simp only [ho, hu, hv, Sem.run_bind, run_eqGuard_agg _ _ _ _ _ _ _ guard35, Result.andThen_ok, h]
  rfl
theorem less_at {E : En} {k i : Nat} (h : Srt E) (hk : k < i) (hi : i < E.length) : lessW ((keysE E).getD k default).1 ((keysE E).getD i default).1 = true := by
  have := List.pairwise_iff_getElem.1 h k i (by omega) hi hk
  simpa [keysE, hi, show k < E.length by omega] using this
end Go.Proofs.Ythjgmnafbikihaa
