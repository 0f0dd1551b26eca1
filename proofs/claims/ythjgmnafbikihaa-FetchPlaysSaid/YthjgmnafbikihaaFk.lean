/-
  Fetch: the table's map, as a list of wants in order, each with how often it was tried and how long it waits.
-/
import Derived.Test.YthjgmnafbikihaaFj
import Derived.Maps.OwnSet
set_option linter.unusedVariables false
set_option linter.unusedSimpArgs false
namespace Go.Proofs.Ythjgmnafbikihaa
open Go.RowKit Go.Maps Go.Sort

abbrev St := Int × Int
abbrev En := List (WS × St)
def lk : En → WS → Option St
  | [], _ => none
  | (y, s) :: E, x => if x = y then some s else lk E x
def keysE (E : En) : List WS := E.map (·.1)
/-- in order, each once. -/
def Srt (E : En) : Prop := E.Pairwise fun p q => lessW p.1.1 q.1.1 = true

theorem lk_mem {E : En} {x : WS} : (lk E x).isSome = true ↔ x ∈ keysE E := by
  induction E with
  | nil => simp [lk, keysE]
  | cons p E ih =>
    obtain ⟨y, s⟩ := p
    unfold lk
    by_cases h : x = y
    · simp [h, keysE]
    · rw [if_neg h, ih]
      simp [keysE, h]
theorem lk_none {E : En} {x : WS} (h : x ∉ keysE E) : lk E x = none := by
  rw [← lk_mem] at h
  simpa using h
theorem srt_nodup {E : En} (h : Srt E) : (keysE E).Nodup := by
  refine List.Pairwise.map _ (fun a b (hab : lessW a.1.1 b.1.1 = true) => ?_) h
  intro e
  rw [e, lessW_irr] at hab
  cases hab

/-- a state as a map's element. -/
def dv (s : St) : DataW Unit := .agg [.lit (.int .i64 s.1), .lit (.int .i64 s.2)]
def sv (s : St) : Value := .agg #[.int .i64 s.1, .int .i64 s.2]
def rvL : List Value → Option (DataW Unit × List MemPlace)
  | [.int .i64 a, .int .i64 b] => some (dv (a, b), [])
  | _ => none
def rvS : Value → Option (DataW Unit × List MemPlace)
  | .agg cs => rvL cs.toList
  | _ => none
theorem rvS_mk (s : St) : rvS (sv s) = some (dv s, []) := rfl
theorem rvS_inv {v : Value} {z : DataW Unit × List MemPlace} (h : rvS v = some z) : ∃ s, v = sv s ∧ z = (dv s, []) := by
  cases v <;> simp only [rvS] at h <;> try cases h
  rename_i cs
  obtain ⟨l⟩ := cs
  simp only at h
  unfold rvL at h
  split at h
  · rename_i a b
    injection h with h
    exact ⟨(a, b), rfl, h.symm⟩
  · cases h
theorem dv_inj {s t : St} (h : dv s = dv t) : s = t := by
  unfold dv at h
  injection h with h
  injection h with h1 h2
  injection h2 with h2 _
  injection h1 with h1
  injection h1 with _ h1
  injection h2 with h2
  injection h2 with _ h2
  exact Prod.ext h1 h2
theorem zero69 (w : World) : (zeroValue 69).run Try.prog w = .ok (sv (0, 0)) w := Try.zeroValue69 w

/-- the map in block 'b' holds just E. -/
def Tab (w : World) (b : Nat) (E : En) : Prop :=
  ∃ D : DataW Unit, w.ownsMap Try.prog 35 rvS b E.length D ∧ Maps.size D = E.length ∧ ∀ x kl, keyOf Try.prog 35 (wv x) = some kl → has D kl = (lk E x).isSome ∧ ∀ s, lk E x = some s → ∀ z, D.atKey kl z = dv s

theorem own_tight {w : World} {b n : Nat} {D : DataW Unit} (h : w.ownsMap Try.prog 35 rvS b n D) : w.ownsMap Try.prog 35 rvS b (Maps.size D) D := by
  obtain ⟨es, clock, hb, F, _, rfl⟩ := h
  exact ⟨es, clock, hb, F, by simp [Maps.size, length_sorted], rfl⟩

section
variable {w : World} {b : Nat} {E : En}
theorem tab_made (w : World) : Tab (w.alloc (.map #[] 0)) w.heap.size [] :=
  ⟨.map [], World.ownsMap_made _ _ _ _, rfl, fun x kl _ => ⟨rfl, fun s h => by cases h⟩⟩
theorem Tab.lt (h : Tab w b E) : b < w.heap.size := by obtain ⟨D, h1, _⟩ := h; exact h1.lt
theorem Tab.kept {w' : World} {row : Option Nat} (h : Tab w b E) (hg : w.grownBy w' row) (hne : some b ≠ row) : Tab w' b E := by
  obtain ⟨D, h1, h2⟩ := h
  exact ⟨D, h1.kept hg hne, h2⟩
theorem Tab.block {w' : World} (h : Tab w b E) (e : w'.heap[b]? = w.heap[b]?) : Tab w' b E := by
  obtain ⟨D, ⟨es, c, hb, r⟩, h2⟩ := h
  exact ⟨D, ⟨es, c, e.trans hb, r⟩, h2⟩
theorem Tab.look_ok (h : Tab w b E) (x : WS) : (Instr.lookup 63 (.map (some b)) (wv x) true).run Try.prog w = .ok (.tuple #[sv ((lk E x).getD (0, 0)), .bool (lk E x).isSome]) w := by
  obtain ⟨D, h1, _, h3⟩ := h
  obtain ⟨kl, hk⟩ := keyOf_wv x
  obtain ⟨v, ps, hrun, hv⟩ := h1.look_ok law35 Try.underlying63 (zero69 w) (rvS_mk (0, 0)) hk
  obtain ⟨s, rfl, hs⟩ := rvS_inv hv
  obtain ⟨ha, hb⟩ := h3 x kl hk
  rw [hrun, ha]
  cases hl : lk E x with
  | none =>
    have : has D kl = false := by rw [ha, hl]; rfl
    rw [atKey_of_not_has this] at hs
    simp only [Prod.mk.injEq] at hs
    rw [dv_inj hs.1.symm]
    rfl
  | some t =>
    rw [hb t hl] at hs
    simp only [Prod.mk.injEq] at hs
    rw [dv_inj hs.1.symm]
    rfl
theorem Tab.look (h : Tab w b E) {x : WS} {t : St} (hl : lk E x = some t) : (Instr.lookup 63 (.map (some b)) (wv x) false).run Try.prog w = .ok (sv t) w := by
  obtain ⟨D, h1, _, h3⟩ := h
  obtain ⟨kl, hk⟩ := keyOf_wv x
  obtain ⟨v, ps, hrun, hv⟩ := h1.lookup law35 Try.underlying63 (zero69 w) (rvS_mk (0, 0)) hk
  obtain ⟨s, rfl, hs⟩ := rvS_inv hv
  rw [(h3 x kl hk).2 t hl] at hs
  simp only [Prod.mk.injEq] at hs
  rw [hrun, dv_inj hs.1.symm]
/-- a store: whatever list says the same of all others. -/
theorem Tab.put (h : Tab w b E) (x : WS) (s : St) (E' : En) (hs : lk E' x = some s) (ho : ∀ y, y ≠ x → lk E' y = lk E y) (hl : E'.length = if (lk E x).isSome then E.length else E.length + 1) (hE : E.length < maxLen) :
    ∃ w', (Instr.mapUpdate 63 (.map (some b)) (wv x) (sv s)).run Try.prog w = .ok () w' ∧ Tab w' b E' ∧ w.grownBy w' (some b) := by
  obtain ⟨D, h1, h2, h3⟩ := h
  obtain ⟨kl, hk⟩ := keyOf_wv x
  obtain ⟨w', hrun, h4, h5⟩ := h1.update law35 Try.underlying63 hE hk (rvS_mk s)
  have htidy := h1.tidy law35
  have hsz : Maps.size (D.put kl (dv s)) = E'.length := by
    rw [size_put htidy, (h3 x kl hk).1, hl, h2]
  refine ⟨w', hrun, ⟨_, by rw [← hsz]; exact own_tight h4, hsz, fun y ky hky => ?_⟩, h5⟩
  by_cases e : y = x
  · subst e
    rw [hk] at hky
    injection hky with hky
    subst hky
    refine ⟨by rw [has_put_same htidy.isMap (law35.key hk), hs]; rfl, fun t ht z => ?_⟩
    rw [hs] at ht
    obtain rfl := Option.some.inj ht
    exact atKey_put_same htidy.isMap (law35.key hk) _ _
  · have hne : ky ≠ kl := fun e' => e (wv_inj (law35.inj (by rw [hky, e']) hk))
    rw [has_put_other hne, ho y e]
    refine ⟨(h3 y ky hky).1, fun t ht z => ?_⟩
    rw [atKey_put_other hne]
    exact (h3 y ky hky).2 t ht z
theorem Tab.drop (h : Tab w b E) (x : WS) (E' : En) (hs : lk E' x = none) (ho : ∀ y, y ≠ x → lk E' y = lk E y) (hl : E'.length + (if (lk E x).isSome then 1 else 0) = E.length) (ty : TypeId) :
    ∃ w', (Builtin.delete_ #[63, 35] ty #[.map (some b), wv x]).run Try.prog w = .ok (.tuple #[]) w' ∧ Tab w' b E' ∧ w.grownBy w' (some b) := by
  obtain ⟨D, h1, h2, h3⟩ := h
  obtain ⟨kl, hk⟩ := keyOf_wv x
  obtain ⟨w', hrun, h4, h5⟩ := h1.drop law35 Try.underlying63 hk ty
  have htidy := h1.tidy law35
  have hsz : Maps.size (D.del kl) = E'.length := by
    have := size_del (k := kl) htidy
    rw [(h3 x kl hk).1, h2, ← hl] at this
    omega
  refine ⟨w', hrun, ⟨_, by rw [← hsz]; exact own_tight h4, hsz, fun y ky hky => ?_⟩, h5.grown⟩
  by_cases e : y = x
  · subst e
    rw [hk] at hky
    injection hky with hky
    subst hky
    exact ⟨by rw [has_del_same, hs]; rfl, fun t ht => by rw [hs] at ht; cases ht⟩
  · have hne : ky ≠ kl := fun e' => e (wv_inj (law35.inj (by rw [hky, e']) hk))
    rw [has_del_other hne, ho y e]
    refine ⟨(h3 y ky hky).1, fun t ht z => ?_⟩
    rw [atKey_del_other hne]
    exact (h3 y ky hky).2 t ht z
end

/-- what a walk of the keys gives, sorted, is the list's own keys. -/
theorem sort_keys {E : En} {D : DataW Unit} {ss : List WS} (hE : Srt E) (hs : KeysAre D ss) (h : ∀ x kl, keyOf Try.prog 35 (wv x) = some kl → has D kl = (lk E x).isSome) : sortS ss = keysE E ∧ ss.length = E.length := by
  have hp : ss.Perm (keysE E) := (List.perm_ext_iff_of_nodup hs.1 (srt_nodup hE)).2 fun x => by
    obtain ⟨kl, hk⟩ := keyOf_wv x
    rw [hs.2 x kl hk, h x kl hk, lk_mem]
  have tr : ∀ a b c : WS, (!(ltOf cmpS) b a) = true → (!(ltOf cmpS) c b) = true → (!(ltOf cmpS) c a) = true := by
    intro a b c h1 h2
    simp only [Bool.not_eq_true'] at *
    exact swoS.ntrans c b a h2 h1
  have to : ∀ a b : WS, ((!(ltOf cmpS) b a) || (!(ltOf cmpS) a b)) = true := by
    intro a b
    by_cases h1 : ltOf cmpS b a = true
    · have : ltOf cmpS a b = false := by rw [ltS] at *; exact lessW_asym h1
      simp [this]
    · simp [h1]
  refine ⟨?_, by rw [hp.length_eq]; simp [keysE]⟩
  refine List.Perm.eq_of_pairwise (le := fun a b => (!(ltOf cmpS) b a) = true) (fun a b _ _ h1 h2 => ?_) (List.pairwise_mergeSort tr to ss) ?_ ((List.mergeSort_perm ss _).trans hp)
  · simp only [Bool.not_eq_true'] at h1 h2
    exact totS a b h2 h1
  · refine List.Pairwise.map _ (fun a b (hab : lessW a.1.1 b.1.1 = true) => ?_) hE
    rw [ltS, lessW_asym hab]
    rfl
end Go.Proofs.Ythjgmnafbikihaa
