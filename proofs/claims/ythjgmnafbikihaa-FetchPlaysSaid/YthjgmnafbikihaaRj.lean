/-
  Fetch, the document's answer: three rows that grow beside each other; a tick, want by want.
-/
import Derived.Test.YthjgmnafbikihaaRi
set_option linter.unusedVariables false
set_option linter.unusedSimpArgs false
namespace Go.Proofs.Ythjgmnafbikihaa
open Go.RowKit Go.Maps Go.Sort

theorem wpList_push2 {W0 w : World} {v : Value} {L : En} {p : WS × St} {ops : Array Oper} {rest : List Oper} {o1 o2 : Oper} {a : Act} {Q : Exit → Act → World → Prop} (x s : Operand) (t1 : Tmp) (g1 : o1.guard = none) (h1 : o1.op = .buildSlice 46 1 #[(0, x)]) (d1 : o1.dst = some t1)
    (g2 : o2.guard = none) (h2 : o2.op = .call { callee := .builtin .append, args := #[s, .tmp t1], argTypes := #[46, 46] }) (il : List Value) (hil : encQ p = il) (hx : a.eval x = .agg il.toArray)
    (hs : (a.put (some t1) (.slice (some ⟨w.heap.size, 0, none⟩) 1 1)).eval s = v) (hsl : (a.put (some t1) (.slice (some ⟨w.heap.size, 0, none⟩) 1 1)).eval (.tmp t1) = .slice (some ⟨w.heap.size, 0, none⟩) 1 1)
    (hq : QR W0 w v L) (hL : L.length ≤ 1000000)
    (h : ∀ v9 w9, w9.ownsRow W0.heap.size 78 68 v9 (L.length + 1) (qrow L ++ encQ p) → (w.alloc (.cells (encQ p).toArray 78)).grownBy w9 v.ownBlock → (v9.ownBlock = v.ownBlock ∨ v9.ownBlock = some (w.heap.size + 1)) →
      wpList Try.prog ops Q rest ((a.put (some t1) (.slice (some ⟨w.heap.size, 0, none⟩) 1 1)).put o2.dst v9) w9) : wpList Try.prog ops Q (o1 :: o2 :: rest) a w := by
  obtain ⟨i0, z0, hi, hz0, hzc, hz1, hz2⟩ := parts78
  have hl := encQ_length p
  have hone := encQ_ones p
  have hr := reads_q w p
  subst hil
  have hs68 : (encQ p).toArray.size = 68 := by simpa using hl
  refine wpList_slice_one 46 78 x (encQ p).toArray i0 z0 g1 h1 hx Try.underlying46 hi hz0 (by rw [hz1, hs68]) (by rw [hzc, hs68]) (by rw [hs68]; decide) (by rw [hs68]; decide) ?_
  rw [d1]
  refine wpList_append_any _ g2 s (.tmp t1) 46 h2 W0.heap.size 78 i0 z0 68 96 Try.underlying46 hi hz0 hz1 hz2 hzc (by decide) v L.length (qrow L) hs (hq.own.alloc _) (w.heap.size + 1) (some ⟨w.heap.size, 0, none⟩) 1 1 (encQ p) hsl hr hone (by unfold maxLen; omega) (by omega) (by have := hq.below.size; simp; omega) ?_
  intro v9 w9 hown hg hob
  exact h v9 w9 hown hg (by simpa using hob)

/-- no block of one is one of the other. -/
def Apart (u v : Value) : Prop := ∀ k, u.ownBlock = some k → v.ownBlock ≠ some k
structure R3 (W0 w : World) (lv av bv : Value) (L A B : En) : Prop where
  l : QR W0 w lv L
  a : QR W0 w av A
  b : QR W0 w bv B
  la : Apart lv av
  lb : Apart lv bv
  ab : Apart av bv
theorem Apart.symm {u v : Value} (h : Apart u v) : Apart v u := fun k e e' => h k e' e
theorem Apart.fresh {W0 w : World} {u v v' : Value} {M : En} (h : Apart u v) (hv : QR W0 w v M) (ho : v'.ownBlock = u.ownBlock ∨ v'.ownBlock = some (w.heap.size + 1)) : Apart v' v := fun k e e' => by
  rcases ho with ho | ho
  · exact h k (ho ▸ e) e'
  · rw [ho] at e
    injection e with e
    have := (hv.own.lt k e').2
    omega
theorem QR.past {W0 w w' : World} {u v : Value} {L M : En} {cs : Array Value} (h : QR W0 w v M) (hu : QR W0 w u L) (ha : Apart u v) (hg : (w.alloc (.cells cs 78)).grownBy w' u.ownBlock) : QR W0 w' v M := by
  have h1 := h.below_ ((Below.refl w.heap.size w).alloc (Nat.le_refl _) (.cells cs 78))
  have h2 := hu.below_ ((Below.refl w.heap.size w).alloc (Nat.le_refl _) (.cells cs 78))
  refine ⟨h1.own.kept hg (own_ne fun k e => ha k e), ?_⟩
  exact h1.below.grown hg h1.below.size (fun k e => (h2.own.lt k e).1)
section
variable {W0 w w' : World} {lv av bv v' : Value} {L A B : En} {p : WS × St}
theorem R3.nil (W0 w : World) (h : Below W0.heap.size W0 w) : R3 W0 w (.slice none 0 0) (.slice none 0 0) (.slice none 0 0) [] [] [] :=
  ⟨QR.nil _ _ h, QR.nil _ _ h, QR.nil _ _ h, (fun k e => by cases e), (fun k e => by cases e), (fun k e => by cases e)⟩
theorem R3.below_ (h : R3 W0 w lv av bv L A B) (hB : Below w.heap.size w w') : R3 W0 w' lv av bv L A B :=
  ⟨h.l.below_ hB, h.a.below_ hB, h.b.below_ hB, h.la, h.lb, h.ab⟩
theorem QR.own_grown {v : Value} {b : Nat} (h : QR W0 w v L) (hg : w.grownBy w' (some b)) (hb : W0.heap.size ≤ b) (hne : v.ownBlock ≠ some b) : QR W0 w' v L :=
  ⟨h.own.kept hg (.inr hne), h.below.grown hg h.below.size (fun k e => by injection e with e; omega)⟩
theorem R3.own_grown {b : Nat} (h : R3 W0 w lv av bv L A B) (hg : w.grownBy w' (some b)) (hb : W0.heap.size ≤ b) (h1 : lv.ownBlock ≠ some b) (h2 : av.ownBlock ≠ some b) (h3 : bv.ownBlock ≠ some b) : R3 W0 w' lv av bv L A B :=
  ⟨h.l.own_grown hg hb h1, h.a.own_grown hg hb h2, h.b.own_grown hg hb h3, h.la, h.lb, h.ab⟩
theorem R3.pushL (h : R3 W0 w lv av bv L A B) (hown : w'.ownsRow W0.heap.size 78 68 v' (L.length + 1) (qrow L ++ encQ p)) (hg : (w.alloc (.cells (encQ p).toArray 78)).grownBy w' lv.ownBlock) (ho : v'.ownBlock = lv.ownBlock ∨ v'.ownBlock = some (w.heap.size + 1)) : R3 W0 w' v' av bv (L ++ [p]) A B :=
  ⟨h.l.push hown hg, h.a.past h.l h.la hg, h.b.past h.l h.lb hg, h.la.fresh h.a ho, h.lb.fresh h.b ho, h.ab⟩
theorem R3.pushA (h : R3 W0 w lv av bv L A B) (hown : w'.ownsRow W0.heap.size 78 68 v' (A.length + 1) (qrow A ++ encQ p)) (hg : (w.alloc (.cells (encQ p).toArray 78)).grownBy w' av.ownBlock) (ho : v'.ownBlock = av.ownBlock ∨ v'.ownBlock = some (w.heap.size + 1)) : R3 W0 w' lv v' bv L (A ++ [p]) B :=
  ⟨h.l.past h.a h.la.symm hg, h.a.push hown hg, h.b.past h.a h.ab hg, (h.la.symm.fresh h.l ho).symm, h.lb, h.ab.fresh h.b ho⟩
theorem R3.pushB (h : R3 W0 w lv av bv L A B) (hown : w'.ownsRow W0.heap.size 78 68 v' (B.length + 1) (qrow B ++ encQ p)) (hg : (w.alloc (.cells (encQ p).toArray 78)).grownBy w' bv.ownBlock) (ho : v'.ownBlock = bv.ownBlock ∨ v'.ownBlock = some (w.heap.size + 1)) : R3 W0 w' lv av v' L A (B ++ [p]) :=
  ⟨h.l.past h.b h.lb.symm hg, h.a.past h.b h.ab.symm hg, h.b.push hown hg, h.la, (h.lb.symm.fresh h.l ho).symm, (h.ab.symm.fresh h.a ho).symm⟩
theorem R3.fresh (h : R3 W0 w lv av bv L A B) {b : Nat} (hb : w.heap.size ≤ b) : lv.ownBlock ≠ some b ∧ av.ownBlock ≠ some b ∧ bv.ownBlock ≠ some b :=
  ⟨fun e => by have := (h.l.own.lt b e).2; omega, fun e => by have := (h.a.own.lt b e).2; omega, fun e => by have := (h.b.own.lt b e).2; omega⟩
end

theorem results_t4 {fn : Func} {g u v x : Tmp} {ty : TypeId} (h : fn.results = #[.cell g ty, .tmp u, .tmp v, .tmp x]) (h48 : ty = 48) {tmps : Array Value} {b : Nat} {cs : Array Value} {w : World} (ht : tmps.getD g undef = .pointer (some ⟨b, 0, none⟩)) (hb : Blk w b 48 cs) (hs : cs.size = 4) :
    (results fn tmps).run Try.prog w = .ok (.tuple #[.agg cs, tmps.getD u undef, tmps.getD v undef, tmps.getD x undef]) w := by
  subst h48
  have hi : (Try.prog.info? 48).map (·.size) = some cs.size := by rw [hs]; kernel_rfl
  have hl : (loadVar 48 ⟨b, 0, none⟩).run Try.prog w = .ok (.agg cs) w := run_loadVar_row w b 48 48 cs (0, 0) _ hb Try.underlying48 rfl hi
  have ht' : tmps[g]?.getD undef = .pointer (some ⟨b, 0, none⟩) := by simpa using ht
  simp [results, h, ht', hl, asAddr]

theorem set67 (x : WS) (tr lf a : Int) : (encQ (x, (tr, lf))).toArray.setIfInBounds 67 (.int .i64 a) = (encQ (x, (tr, a))).toArray := by
  have h1 : (encS x).length = 66 := wcells_length x.2
  have e : ∀ lf : Int, encQ (x, (tr, lf)) = encS x ++ [.int .i64 tr, .int .i64 lf] := fun _ => rfl
  rw [e, e]
  simp [List.set_append, h1]
theorem set66 (x : WS) (tr lf a : Int) : (encQ (x, (tr, lf))).toArray.setIfInBounds 66 (.int .i64 a) = (encQ (x, (a, lf))).toArray := by
  have h1 : (encS x).length = 66 := wcells_length x.2
  have e : ∀ tr : Int, encQ (x, (tr, lf)) = encS x ++ [.int .i64 tr, .int .i64 lf] := fun _ => rfl
  rw [e, e]
  simp [List.set_append, h1]
theorem rbel_any (s n : Int) (w : World) (h1 : 1 ≤ n) (hm : n ≤ 1000) : Calls Try.prog 28 #[.int .u64 s, .int .i64 n] w fun e w' => e = .returned (.tuple #[.int .u64 (belS s n), .int .i64 (belV s n)]) ∧ Below w.heap.size w w' := by
  by_cases hn : n < 2
  · refine (rbel_lo s n w hn).mono ?_
    rintro e w' ⟨rfl, rfl⟩
    exact ⟨by rw [belV, belS, if_pos hn, if_pos hn], Below.refl _ _⟩
  · refine (rbel_hi s n w (by omega) (by omega)).mono ?_
    rintro e w' ⟨rfl, q, rfl⟩
    exact ⟨by rw [belV, belS, if_neg hn, if_neg hn], below_dN (Below.refl _ _) q⟩

/-! want by want -/
section
variable {base most budget : Int} {E : En} {s : Int} {i : Nat} {x : WS} {tr lf : Int}
theorem tk_next (hi : i < E.length) (hp : E.getD i default = (x, (tr, lf))) : tk base most budget E s (i + 1) = tstep base most budget (tk base most budget E s i) (x, (tr, lf)) := by
  have h : E.drop i = (x, (tr, lf)) :: E.drop (i + 1) := by
    have := List.drop_eq_getElem_cons hi
    rw [this]
    congr 1
    rw [List.getD, List.getElem?_eq_getElem hi] at hp
    exact hp
  exact (tk_succ h).1
theorem tk_stay (hi : i < E.length) (hp : E.getD i default = (x, (tr, lf))) (h1 : 0 < lf - 1) :
    tk base most budget E s (i + 1) = ⟨(tk base most budget E s i).P ++ [(x, (tr, lf - 1))], (tk base most budget E s i).s, (tk base most budget E s i).asks, (tk base most budget E s i).lost⟩ := by
  rw [tk_next hi hp]
  unfold tstep
  rw [if_pos h1]
theorem tk_lose (hi : i < E.length) (hp : E.getD i default = (x, (tr, lf))) (h1 : ¬ 0 < lf - 1) (h2 : tr = budget) :
    tk base most budget E s (i + 1) = ⟨(tk base most budget E s i).P, (tk base most budget E s i).s, (tk base most budget E s i).asks, (tk base most budget E s i).lost ++ [x]⟩ := by
  rw [tk_next hi hp]
  unfold tstep
  rw [if_neg h1, if_pos h2]
theorem tk_ask (hi : i < E.length) (hp : E.getD i default = (x, (tr, lf))) (h1 : ¬ 0 < lf - 1) (h2 : tr ≠ budget) :
    tk base most budget E s (i + 1) = ⟨(tk base most budget E s i).P ++ [(x, (tr + 1, wait base most tr + belV (tk base most budget E s i).s base))], belS (tk base most budget E s i).s base, (tk base most budget E s i).asks ++ [x], (tk base most budget E s i).lost⟩ := by
  rw [tk_next hi hp]
  unfold tstep
  rw [if_neg h1, if_neg h2]
end
/-- how far the document's tick is. -/
structure RT (W0 w : World) (base most budget : Int) (E : En) (s : Int) (i : Nat) (sv lv av bv : Value) : Prop where
  ex : ∃ A B, R3 W0 w lv av bv (tk base most budget E s i).P A B ∧ keysE A = (tk base most budget E s i).asks ∧ keysE B = (tk base most budget E s i).lost
  st : sv = .int .u64 (tk base most budget E s i).s
end Go.Proofs.Ythjgmnafbikihaa
