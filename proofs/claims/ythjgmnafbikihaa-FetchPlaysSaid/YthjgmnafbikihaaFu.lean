/-
  Fetch: whether two wants are the same; the order and the end of ticks, in plain.
-/
import Derived.Test.YthjgmnafbikihaaFt
import Derived.DeepKeys
import Derived.Laws.StructEq
set_option linter.unusedVariables false
set_option linter.unusedSimpArgs false
namespace Go.Proofs.Ythjgmnafbikihaa
open Go.RowKit Go.Maps Go.Sort

theorem same_wv (x y : WS) (w : World) : (Op.equalIn 10000 35 (wv x) (wv y)).run Try.prog w = .ok (decide (x = y)) w := by
  obtain ⟨lx, hx⟩ := keyOf_wv x
  obtain ⟨ly, hy⟩ := keyOf_wv y
  obtain ⟨r, hr, hiff⟩ := run_equal_deep (P := Try.prog) w (m := 4) (by omega) (k := 35) (by kernel_rfl) (by rw [Try.underlying35]) hx hy
  have e : decide (x = y) = r := by
    by_cases h : x = y
    · have hl : lx = ly := by
        rw [h, hy] at hx
        exact (Option.some.inj hx).symm
      have h1 : r = true := hiff.2 hl
      rw [h1, decide_eq_true h]
    · have : r = false := by
        cases r with
        | false => rfl
        | true => exact absurd (wv_inj (law35.inj (by rw [hx, hiff.1 rfl]) hy)) h
      rw [this, decide_eq_false h]
  rw [e]
  have heq : Op.equal 35 (wv x) (wv y) = Op.equalIn 10000 35 (wv x) (wv y) := by simp only [Op.equal, Op.maxDepth]
  rw [heq] at hr
  exact hr
theorem guard35 : Try.prog.eqGuardType Try.prog.depth 35 = false := by kernel_rfl
theorem eql_wv (x y : WS) (w : World) : (binOp .eql 35 (wv x) (wv y)).run Try.prog w = .ok (.bool (decide (x = y))) w := by
  have h := same_wv x y w
  unfold wv at h ⊢
  rw [run_eql_struct, h]
  rfl
theorem neq_wv (x y : WS) (w : World) : (binOp .neq 35 (wv x) (wv y)).run Try.prog w = .ok (.bool (!decide (x = y))) w := by
  have h := same_wv x y w
  unfold wv at h ⊢
  rw [run_neq_struct, h]
  rfl

/-! all at once -/
theorem tick_fold (base most budget : Int) : ∀ (E : En) (t : Tk), (∀ p ∈ E, p.2 = (0, 1)) → 1 ≤ budget →
    (E.foldl (tstep base most budget) t).asks = t.asks ++ keysE E ∧ (E.foldl (tstep base most budget) t).lost = t.lost ∧ keysE (E.foldl (tstep base most budget) t).P = keysE t.P ++ keysE E
  | [], t, _, _ => by simp [keysE]
  | e :: E, t, h, hb => by
    have he := h e (by simp)
    obtain ⟨x, st⟩ := e
    simp only at he
    subst he
    simp only [List.foldl_cons]
    have hs : tstep base most budget t (x, (0, 1)) = ⟨t.P ++ [(x, (0 + 1, wait base most 0 + belV t.s base))], belS t.s base, t.asks ++ [x], t.lost⟩ := by
      unfold tstep
      rw [if_neg (by simp), if_neg (by simp; omega)]
    rw [hs]
    obtain ⟨h1, h2, h3⟩ := tick_fold base most budget E ⟨t.P ++ [(x, (0 + 1, wait base most 0 + belV t.s base))], belS t.s base, t.asks ++ [x], t.lost⟩ (fun p hp => h p (by simp [hp])) hb
    rw [h1, h2, h3]
    simp [keysE]
theorem tick_all {base most budget : Int} {E : En} {s : Int} (h : ∀ p ∈ E, p.2 = (0, 1)) (hb : 1 ≤ budget) :
    (tick base most budget E s).asks = keysE E ∧ (tick base most budget E s).lost = [] ∧ keysE (tick base most budget E s).P = keysE E := by
  have := tick_fold base most budget E ⟨[], s, [], []⟩ h hb
  simpa [tick, keysE] using this
theorem stE_new {E : En} (h : ∀ p ∈ E, p.2 = (0, 1)) (x : WS) : ∀ p ∈ stE E x, p.2 = (0, 1) := by
  unfold stE
  split
  · exact h
  · intro p hp
    rcases mem_ins.1 hp with rfl | hp
    · rfl
    · exact h p hp
theorem stE_len (E : En) (x : WS) : (stE E x).length = if (lk E x).isSome then E.length else E.length + 1 := by
  unfold stE
  split
  · rfl
  · exact ins_length x (0, 1) E
/-- a smaller one has no greater first size. -/
theorem less_size {x y : Wt} (h : lessW x y = true) : x.1.1 ≤ y.1.1 := by
  rcases (lessW_iff x y).1 h with h | ⟨e, _⟩
  · unfold lessK cmpK at h
    simp only [decide_eq_true_eq] at h
    split at h
    · omega
    · split at h
      · omega
      · omega
  · rw [e]; exact Int.le_refl _
end Go.Proofs.Ythjgmnafbikihaa
