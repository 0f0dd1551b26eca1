/-
  Fetch: what a tick keeps, and how long each waits, in plain.
-/
import Derived.Test.YthjgmnafbikihaaFu
set_option linter.unusedVariables false
set_option linter.unusedSimpArgs false
namespace Go.Proofs.Ythjgmnafbikihaa
open Go.RowKit Go.Maps Go.Sort

/-- what a tick makes of one want. -/
def SS (base most budget : Int) (p q : WS × St) : Prop :=
  q.1 = p.1 ∧ ((0 < p.2.2 - 1 ∧ q.2 = (p.2.1, p.2.2 - 1)) ∨ (¬ 0 < p.2.2 - 1 ∧ p.2.1 ≠ budget ∧ ∃ s, q.2 = (p.2.1 + 1, wait base most p.2.1 + belV s base)))
theorem fold_mem (base most budget : Int) : ∀ (E : En) (t : Tk),
    (∀ q ∈ (E.foldl (tstep base most budget) t).P, q ∈ t.P ∨ ∃ p ∈ E, SS base most budget p q) ∧
    (∀ x ∈ (E.foldl (tstep base most budget) t).asks, x ∈ t.asks ∨ x ∈ keysE E) ∧
    (∀ x ∈ (E.foldl (tstep base most budget) t).lost, x ∈ t.lost ∨ x ∈ keysE E)
  | [], t => ⟨fun q h => .inl h, fun q h => .inl h, fun q h => .inl h⟩
  | e :: E, t => by
    obtain ⟨x, tr, lf⟩ := e
    simp only [List.foldl_cons]
    obtain ⟨h1, h2, h3⟩ := fold_mem base most budget E (tstep base most budget t (x, (tr, lf)))
    have hs : tstep base most budget t (x, (tr, lf)) = if 0 < lf - 1 then ⟨t.P ++ [(x, (tr, lf - 1))], t.s, t.asks, t.lost⟩
      else if tr = budget then ⟨t.P, t.s, t.asks, t.lost ++ [x]⟩
      else ⟨t.P ++ [(x, (tr + 1, wait base most tr + belV t.s base))], belS t.s base, t.asks ++ [x], t.lost⟩ := rfl
    generalize tstep base most budget t (x, (tr, lf)) = t' at h1 h2 h3 hs ⊢
    refine ⟨fun q hq => ?_, fun q hq => ?_, fun q hq => ?_⟩
    · rcases h1 q hq with h | ⟨p, hp, h⟩
      · by_cases c1 : 0 < lf - 1
        · rw [if_pos c1] at hs; subst hs
          rcases List.mem_append.1 h with h | h
          · exact .inl h
          · exact .inr ⟨(x, (tr, lf)), by simp, by rw [List.mem_singleton.1 h]; exact ⟨rfl, .inl ⟨c1, rfl⟩⟩⟩
        · by_cases c2 : tr = budget
          · rw [if_neg c1, if_pos c2] at hs; subst hs
            exact .inl h
          · rw [if_neg c1, if_neg c2] at hs; subst hs
            rcases List.mem_append.1 h with h | h
            · exact .inl h
            · exact .inr ⟨(x, (tr, lf)), by simp, by rw [List.mem_singleton.1 h]; exact ⟨rfl, .inr ⟨c1, c2, _, rfl⟩⟩⟩
      · exact .inr ⟨p, by simp [hp], h⟩
    · rcases h2 q hq with h | h
      · by_cases c1 : 0 < lf - 1
        · rw [if_pos c1] at hs; subst hs; exact .inl h
        · by_cases c2 : tr = budget
          · rw [if_neg c1, if_pos c2] at hs; subst hs; exact .inl h
          · rw [if_neg c1, if_neg c2] at hs; subst hs
            rcases List.mem_append.1 h with h | h
            · exact .inl h
            · exact .inr (by rw [List.mem_singleton.1 h]; simp [keysE])
      · exact .inr (by simp only [keysE, List.map_cons, List.mem_cons] at h ⊢; exact .inr h)
    · rcases h3 q hq with h | h
      · by_cases c1 : 0 < lf - 1
        · rw [if_pos c1] at hs; subst hs; exact .inl h
        · by_cases c2 : tr = budget
          · rw [if_neg c1, if_pos c2] at hs; subst hs
            rcases List.mem_append.1 h with h | h
            · exact .inl h
            · exact .inr (by rw [List.mem_singleton.1 h]; simp [keysE])
          · rw [if_neg c1, if_neg c2] at hs; subst hs; exact .inl h
      · exact .inr (by simp only [keysE, List.map_cons, List.mem_cons] at h ⊢; exact .inr h)
theorem tick_mem {base most budget : Int} {E : En} {s : Int} :
    (∀ q ∈ (tick base most budget E s).P, ∃ p ∈ E, SS base most budget p q) ∧ (∀ x ∈ (tick base most budget E s).asks, x ∈ keysE E) ∧ (∀ x ∈ (tick base most budget E s).lost, x ∈ keysE E) := by
  obtain ⟨h1, h2, h3⟩ := fold_mem base most budget E ⟨[], s, [], []⟩
  exact ⟨fun q h => (h1 q h).resolve_left (by simp), fun q h => (h2 q h).resolve_left (by simp), fun q h => (h3 q h).resolve_left (by simp)⟩
theorem fold_keep (base most budget : Int) : ∀ (E : En) (t : Tk), (∀ p ∈ E, 0 < p.2.2 - 1 ∨ p.2.1 ≠ budget) →
    keysE (E.foldl (tstep base most budget) t).P = keysE t.P ++ keysE E
  | [], t, _ => by simp [keysE]
  | e :: E, t, h => by
    have he := h e (by simp)
    have ih := fold_keep base most budget E (tstep base most budget t e) (fun p hp => h p (by simp [hp]))
    simp only [List.foldl_cons]
    rw [ih]
    unfold tstep
    by_cases c1 : 0 < e.2.2 - 1
    · rw [if_pos c1]; simp [keysE]
    · rw [if_neg c1, if_neg (he.resolve_left c1)]; simp [keysE]
theorem tick_keep {base most budget : Int} {E : En} {s : Int} (h : ∀ p ∈ E, 0 < p.2.2 - 1 ∨ p.2.1 ≠ budget) : keysE (tick base most budget E s).P = keysE E := by
  have := fold_keep base most budget E ⟨[], s, [], []⟩ h
  simpa [tick, keysE] using this
theorem tick_keys {base most budget : Int} {E : En} {s : Int} {x : WS} (h : x ∉ keysE E) : x ∉ keysE (tick base most budget E s).P ∧ x ∉ (tick base most budget E s).asks ∧ x ∉ (tick base most budget E s).lost := by
  obtain ⟨h1, h2, h3⟩ := tick_mem (base := base) (most := most) (budget := budget) (E := E) (s := s)
  refine ⟨fun hx => ?_, fun hx => h (h2 x hx), fun hx => h (h3 x hx)⟩
  simp only [keysE, List.mem_map] at hx
  obtain ⟨q, hq, rfl⟩ := hx
  obtain ⟨p, hp, e, _⟩ := h1 q hq
  exact h (by rw [e]; exact List.mem_map.2 ⟨p, hp, rfl⟩)
theorem tick_le (base most budget : Int) (E : En) (s : Int) : (tick base most budget E s).P.length ≤ E.length ∧ (tick base most budget E s).asks.length ≤ E.length ∧ (tick base most budget E s).lost.length ≤ E.length := by
  have := tk_len base most budget E s E.length
  rw [tk_all] at this
  omega

/-! base 2, most 8, budget 3: how long it is waited for. -/
def upS (st : St) : Int := st.2 + (3 - st.1) * 10
def loS (st : St) : Int := st.2 + (if st.1 = 0 then 14 else if st.1 = 1 then 12 else if st.1 = 2 then 8 else 0)
theorem step_283 {p q : WS × St} (h : SS 2 8 3 p q) (h0 : 0 ≤ p.2.1) (h1 : p.2.1 ≤ 3) (h2 : 1 ≤ p.2.2) : upS q.2 ≤ upS p.2 - 1 ∧ loS p.2 - 1 ≤ loS q.2 := by
  obtain ⟨x, tr, lf⟩ := p
  obtain ⟨y, st⟩ := q
  obtain ⟨_, ⟨c1, h⟩ | ⟨c1, c2, s, h⟩⟩ := h
  · simp only at h c1 h0 h1 h2 ⊢
    subst h
    unfold upS loS
    simp only
    omega
  · simp only at h c1 c2 h0 h1 h2 ⊢
    subst h
    have hv := belV_lt (s := s) (n := 2) (by decide)
    generalize belV s 2 = v at hv ⊢
    have e0 : wait 2 8 0 = 2 := by decide
    have e1 : wait 2 8 1 = 4 := by decide
    have e2 : wait 2 8 2 = 8 := by decide
    have ht : tr = 0 ∨ tr = 1 ∨ tr = 2 := by omega
    rcases ht with rfl | rfl | rfl
    · rw [e0]; simp [upS, loS]; omega
    · rw [e1]; simp [upS, loS]; omega
    · rw [e2]; simp [upS, loS]; omega
theorem tick_up {E : En} {s : Int} {j : Int} (ho : OkE 3 E) (h : ∀ p ∈ E, upS p.2 ≤ j) : ∀ p ∈ (tick 2 8 3 E s).P, upS p.2 ≤ j - 1 := by
  intro q hq
  obtain ⟨p, hp, h1⟩ := tick_mem.1 q hq
  have h2 := ho p hp
  have h3 := step_283 h1 h2.1 h2.2.1 h2.2.2.1
  have := h p hp
  omega
theorem tick_lo {E : En} {s : Int} {j : Int} (ho : OkE 3 E) (h : ∀ p ∈ E, j ≤ loS p.2) : ∀ p ∈ (tick 2 8 3 E s).P, j - 1 ≤ loS p.2 := by
  intro q hq
  obtain ⟨p, hp, h1⟩ := tick_mem.1 q hq
  have h2 := ho p hp
  have h3 := step_283 h1 h2.1 h2.2.1 h2.2.2.1
  have := h p hp
  omega
theorem lo_keep {E : En} {s : Int} {j : Int} (hj : 2 ≤ j) (ho : OkE 3 E) (h : ∀ p ∈ E, j ≤ loS p.2) : keysE (tick 2 8 3 E s).P = keysE E := by
  refine tick_keep fun p hp => ?_
  have h1 := h p hp
  have h2 := ho p hp
  unfold loS at h1
  by_cases e : p.2.1 = 3
  · rw [e] at h1
    simp at h1
    exact .inl (by omega)
  · exact .inr e
theorem up_none {E : En} {j : Int} (hj : j ≤ 0) (ho : OkE 3 E) (h : ∀ p ∈ E, upS p.2 ≤ j) : E = [] := by
  cases E with
  | nil => rfl
  | cons p E =>
    have h1 := h p (by simp)
    have h2 := ho p (by simp)
    unfold upS at h1
    omega
theorem dn_not {E : En} {x : WS} (h : Srt E) : lk (dnE E x) x = none := by
  unfold dnE
  split
  · exact lk_none (fun hm => by
      simp only [keysE, List.mem_map] at hm
      obtain ⟨p, hp, rfl⟩ := hm
      exact (mem_del.1 hp).2 rfl)
  · rename_i h1
    simpa using h1
theorem dn_same {E : En} {x : WS} (h : lk E x = none) : dnE E x = E := by
  unfold dnE
  rw [h]
  rfl
theorem dn_mem {E : En} {x : WS} {p : WS × St} (h : p ∈ dnE E x) : p ∈ E := by
  unfold dnE at h
  split at h
  · exact (mem_del.1 h).1
  · exact h
theorem lk_notin {E : En} {x : WS} (h : lk E x = none) : x ∉ keysE E := fun hm => by
  have := lk_mem.2 hm
  rw [h] at this
  cases this
end Go.Proofs.Ythjgmnafbikihaa
