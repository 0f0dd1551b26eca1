/-
  Gossip, plain: those of a row who can be told, each once.
-/
import Derived.Test.YtpcppphdbalogaaSeen
namespace Go.Proofs.Ytpcppphdbalogaa

/-- may k be told, when P were met. -/
def canTell (many me : Int) (may : Int → Bool) (P : List Int) (k : Int) : Bool := decide (0 ≤ k) && decide (k < many) && decide (k ≠ me) && !decide (k ∈ P) && may k
def othStep (many me : Int) (may : Int → Bool) (P : List Int) (k : Int) : List Int := if canTell many me may P k then P ++ [k] else P
def oth (many me : Int) (may : Int → Bool) (l : List Int) : List Int := l.foldl (othStep many me may) []

theorem oth_snoc (many me : Int) (may : Int → Bool) (l : List Int) (k : Int) : oth many me may (l ++ [k]) = othStep many me may (oth many me may l) k := by simp [oth]
theorem oth_take {many me : Int} {may : Int → Bool} {l : List Int} {i : Nat} (h : i < l.length) : oth many me may (l.take (i + 1)) = othStep many me may (oth many me may (l.take i)) (l.getD i 0) := by
  rw [take_getD h, oth_snoc]

theorem oth_ind {p : List Int → List Int → Prop} (many me : Int) (may : Int → Bool) (h0 : p [] []) (hs : ∀ l P k, p l P → p (l ++ [k]) (othStep many me may P k)) (l : List Int) : p l (oth many me may l) := by
  have key : ∀ n, n ≤ l.length → p (l.take n) (oth many me may (l.take n)) := by
    intro n
    induction n with
    | zero => intro _; exact h0
    | succ n ih =>
      intro hn
      rw [take_getD (by omega), oth_snoc]
      exact hs _ _ _ (ih (by omega))
  have := key l.length (Nat.le_refl _)
  rwa [List.take_length] at this

theorem oth_length (many me : Int) (may : Int → Bool) (l : List Int) : (oth many me may l).length ≤ l.length :=
  oth_ind (p := fun l P => P.length ≤ l.length) many me may (Nat.le_refl _) (fun l P k h => by unfold othStep; split <;> simp <;> omega) l

/-- who is told. -/
theorem oth_mem (many me : Int) (may : Int → Bool) (l : List Int) (x : Int) : x ∈ oth many me may l ↔ x ∈ l ∧ 0 ≤ x ∧ x < many ∧ x ≠ me ∧ may x = true := by
  refine oth_ind (p := fun l P => x ∈ P ↔ x ∈ l ∧ 0 ≤ x ∧ x < many ∧ x ≠ me ∧ may x = true) many me may (by simp) (fun l P k h => ?_) l
  unfold othStep
  split
  · rename_i hc
    simp only [canTell, Bool.and_eq_true, decide_eq_true_eq, Bool.not_eq_true', decide_eq_false_iff_not] at hc
    obtain ⟨⟨⟨⟨h1, h2⟩, h3⟩, h4⟩, h5⟩ := hc
    simp only [List.mem_append, List.mem_singleton, h]
    constructor
    · rintro (⟨a, b⟩ | rfl)
      · exact ⟨.inl a, b⟩
      · exact ⟨.inr rfl, h1, h2, h3, h5⟩
    · rintro ⟨a | rfl, b⟩
      · exact .inl ⟨a, b⟩
      · exact .inr rfl
  · rename_i hc
    rw [h]
    simp only [List.mem_append, List.mem_singleton]
    constructor
    · rintro ⟨a, b⟩; exact ⟨.inl a, b⟩
    · rintro ⟨a | rfl, b⟩
      · exact ⟨a, b⟩
      · by_cases hm : x ∈ P
        · exact ⟨(h.1 hm).1, b⟩
        · exfalso
          apply hc
          simp [canTell, b.1, b.2.1, b.2.2.1, b.2.2.2, hm]

theorem oth_nodup (many me : Int) (may : Int → Bool) (l : List Int) : (oth many me may l).Nodup :=
  oth_ind (p := fun _ P => P.Nodup) many me may List.nodup_nil (fun l P k h => by
    unfold othStep
    split
    · rename_i hc
      simp only [canTell, Bool.and_eq_true, decide_eq_true_eq, Bool.not_eq_true', decide_eq_false_iff_not] at hc
      exact List.nodup_append.2 ⟨h, by simp, fun a ha b hb e => by simp at hb; subst hb; subst e; exact hc.1.2 ha⟩
    · exact h) l
end Go.Proofs.Ytpcppphdbalogaa
