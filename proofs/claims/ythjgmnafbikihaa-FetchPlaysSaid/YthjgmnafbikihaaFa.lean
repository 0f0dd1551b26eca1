/-
  Fetch, plain: keys and wants, and how two stand.
-/
set_option linter.unusedVariables false
set_option linter.unusedSimpArgs false
namespace Go.Proofs.Ythjgmnafbikihaa

/-- a size, and a root. -/
abbrev K := Int × List Int
/-- the old one, and the new one. -/
abbrev Wt := K × K

/-- rows of numbers, as they stand in a dictionary. -/
def cmpL : List Int → List Int → Int
  | [], [] => 0
  | [], _ :: _ => -1
  | _ :: _, [] => 1
  | a :: as, b :: bs => if a < b then -1 else if b < a then 1 else cmpL as bs
def cmpK (a b : K) : Int := if a.1 < b.1 then -1 else if b.1 < a.1 then 1 else cmpL a.2 b.2
def lessK (a b : K) : Bool := decide (cmpK a b < 0)
def cmpW (a b : Wt) : Int := if lessK a.1 b.1 then -1 else if lessK b.1 a.1 then 1 else if lessK a.2 b.2 then -1 else if lessK b.2 a.2 then 1 else 0
def lessW (a b : Wt) : Bool := decide (cmpW a b < 0)

theorem cmpL_self : ∀ l, cmpL l l = 0
  | [] => rfl
  | a :: l => by unfold cmpL; rw [if_neg (by omega), if_neg (by omega)]; exact cmpL_self l
theorem cmpL_zero : ∀ l m, cmpL l m = 0 → l = m
  | [], [], _ => rfl
  | [], _ :: _, h => by simp [cmpL] at h
  | _ :: _, [], h => by simp [cmpL] at h
  | a :: l, b :: m, h => by
    unfold cmpL at h
    by_cases h1 : a < b
    · rw [if_pos h1] at h; omega
    · by_cases h2 : b < a
      · rw [if_neg h1, if_pos h2] at h; omega
      · rw [if_neg h1, if_neg h2] at h
        rw [cmpL_zero l m h, show a = b by omega]
theorem cmpL_three : ∀ l m, cmpL l m = -1 ∨ cmpL l m = 0 ∨ cmpL l m = 1
  | [], [] => by simp [cmpL]
  | [], _ :: _ => by simp [cmpL]
  | _ :: _, [] => by simp [cmpL]
  | a :: l, b :: m => by
    unfold cmpL
    split
    · simp
    · split
      · simp
      · exact cmpL_three l m
theorem cmpL_swap : ∀ l m, cmpL m l = - cmpL l m
  | [], [] => by simp [cmpL]
  | [], _ :: _ => by simp [cmpL]
  | _ :: _, [] => by simp [cmpL]
  | a :: l, b :: m => by
    unfold cmpL
    by_cases h1 : a < b
    · have h2 : ¬ b < a := by omega
      simp [h1, h2]
    · by_cases h2 : b < a
      · simp [h1, h2]
      · simp only [if_neg h1, if_neg h2]; exact cmpL_swap l m
theorem cmpL_trans : ∀ l m n, cmpL l m < 0 → cmpL m n < 0 → cmpL l n < 0
  | [], [], _, h, _ => by simp [cmpL] at h
  | [], _ :: _, [], _, h => by simp [cmpL] at h
  | [], _ :: _, _ :: _, _, _ => by simp [cmpL]
  | _ :: _, [], _, h, _ => by simp [cmpL] at h
  | _ :: _, _ :: _, [], _, h => by simp [cmpL] at h
  | a :: l, b :: m, c :: n, h, k => by
    unfold cmpL at h k ⊢
    by_cases h1 : a < b
    · by_cases k1 : b < c
      · rw [if_pos (by omega)]; omega
      · by_cases k2 : c < b
        · rw [if_neg k1, if_pos k2] at k; omega
        · rw [if_pos (by omega)]; omega
    · by_cases h2 : b < a
      · rw [if_neg h1, if_pos h2] at h; omega
      · rw [if_neg h1, if_neg h2] at h
        obtain rfl : a = b := by omega
        by_cases k1 : a < c
        · rw [if_pos k1]; omega
        · by_cases k2 : c < a
          · rw [if_neg k1, if_pos k2] at k; omega
          · rw [if_neg k1, if_neg k2] at k ⊢
            exact cmpL_trans l m n h k

theorem cmpK_zero (a b : K) : cmpK a b = 0 ↔ a = b := by
  constructor
  · intro h
    unfold cmpK at h
    by_cases h1 : a.1 < b.1
    · rw [if_pos h1] at h; omega
    · by_cases h2 : b.1 < a.1
      · rw [if_neg h1, if_pos h2] at h; omega
      · rw [if_neg h1, if_neg h2] at h
        exact Prod.ext (by omega) (cmpL_zero _ _ h)
  · rintro rfl
    unfold cmpK
    rw [if_neg (by omega), if_neg (by omega)]
    exact cmpL_self _
theorem cmpK_three (a b : K) : cmpK a b = -1 ∨ cmpK a b = 0 ∨ cmpK a b = 1 := by
  unfold cmpK
  split
  · simp
  · split
    · simp
    · exact cmpL_three _ _
theorem cmpK_swap (a b : K) : cmpK b a = - cmpK a b := by
  unfold cmpK
  by_cases h1 : a.1 < b.1
  · have h2 : ¬ b.1 < a.1 := by omega
    simp [h1, h2]
  · by_cases h2 : b.1 < a.1
    · simp [h1, h2]
    · simp only [if_neg h1, if_neg h2]; exact cmpL_swap _ _
theorem cmpK_trans (a b c : K) (h : cmpK a b < 0) (k : cmpK b c < 0) : cmpK a c < 0 := by
  unfold cmpK at h k ⊢
  by_cases h1 : a.1 < b.1
  · by_cases k1 : b.1 < c.1
    · rw [if_pos (by omega)]; omega
    · by_cases k2 : c.1 < b.1
      · rw [if_neg k1, if_pos k2] at k; omega
      · rw [if_pos (by omega)]; omega
  · by_cases h2 : b.1 < a.1
    · rw [if_neg h1, if_pos h2] at h; omega
    · rw [if_neg h1, if_neg h2] at h
      by_cases k1 : b.1 < c.1
      · rw [if_pos (by omega)]; omega
      · by_cases k2 : c.1 < b.1
        · rw [if_neg k1, if_pos k2] at k; omega
        · rw [if_neg k1, if_neg k2] at k
          rw [if_neg (by omega), if_neg (by omega)]
          exact cmpL_trans _ _ _ h k

theorem lessK_irr (a : K) : lessK a a = false := by unfold lessK; rw [(cmpK_zero a a).2 rfl]; rfl
theorem lessK_trans {a b c : K} (h : lessK a b = true) (k : lessK b c = true) : lessK a c = true := by
  unfold lessK at *
  simp only [decide_eq_true_eq] at *
  exact cmpK_trans a b c h k
theorem lessK_asym {a b : K} (h : lessK a b = true) : lessK b a = false := by
  unfold lessK at *
  simp only [decide_eq_true_eq, decide_eq_false_iff_not] at *
  rw [cmpK_swap a b]
  omega
theorem lessK_tot {a b : K} (h : lessK a b = false) (k : lessK b a = false) : a = b := by
  unfold lessK at *
  simp only [decide_eq_false_iff_not] at *
  rw [cmpK_swap a b] at k
  exact (cmpK_zero a b).1 (by omega)

theorem lessW_iff (a b : Wt) : lessW a b = true ↔ lessK a.1 b.1 = true ∨ (a.1 = b.1 ∧ lessK a.2 b.2 = true) := by
  unfold lessW cmpW
  simp only [decide_eq_true_eq]
  by_cases h1 : lessK a.1 b.1 = true
  · simp [h1]
  · rw [if_neg h1]
    have h1' : lessK a.1 b.1 = false := by simpa using h1
    by_cases h2 : lessK b.1 a.1 = true
    · rw [if_pos h2]
      have : a.1 ≠ b.1 := fun e => by rw [e, lessK_irr] at h2; cases h2
      simp [h1, this]
    · rw [if_neg h2]
      have h2' : lessK b.1 a.1 = false := by simpa using h2
      have e := lessK_tot h1' h2'
      by_cases h3 : lessK a.2 b.2 = true
      · simp [h3, e]
      · rw [if_neg h3]
        by_cases h4 : lessK b.2 a.2 = true
        · simp [h4, h3, h1]
        · simp [h4, h3, h1]
theorem lessW_irr (a : Wt) : lessW a a = false := by
  rw [← Bool.not_eq_true, lessW_iff, lessK_irr, lessK_irr]; simp
theorem lessW_trans {a b c : Wt} (h : lessW a b = true) (k : lessW b c = true) : lessW a c = true := by
  rw [lessW_iff] at *
  rcases h with h | ⟨h, h'⟩
  · rcases k with k | ⟨k, k'⟩
    · exact .inl (lessK_trans h k)
    · rw [← k]; exact .inl h
  · rw [h]
    rcases k with k | ⟨k, k'⟩
    · exact .inl k
    · exact .inr ⟨k, lessK_trans h' k'⟩
theorem lessW_asym {a b : Wt} (h : lessW a b = true) : lessW b a = false := by
  rw [← Bool.not_eq_true]
  intro k
  have := lessW_trans h k
  rw [lessW_irr] at this
  cases this
theorem lessW_tot {a b : Wt} (h : lessW a b = false) (k : lessW b a = false) : a = b := by
  rw [← Bool.not_eq_true, lessW_iff] at h k
  have h1 : lessK a.1 b.1 = false := by rw [← Bool.not_eq_true]; exact fun e => h (.inl e)
  have k1 : lessK b.1 a.1 = false := by rw [← Bool.not_eq_true]; exact fun e => k (.inl e)
  have e := lessK_tot h1 k1
  have h2 : lessK a.2 b.2 = false := by rw [← Bool.not_eq_true]; exact fun x => h (.inr ⟨e, x⟩)
  have k2 : lessK b.2 a.2 = false := by rw [← Bool.not_eq_true]; exact fun x => k (.inr ⟨e.symm, x⟩)
  exact Prod.ext e (lessK_tot h2 k2)
theorem cmpW_cases (a b : Wt) : cmpW a b = -1 ∨ cmpW a b = 0 ∨ cmpW a b = 1 := by
  unfold cmpW
  repeat' split
  all_goals simp
end Go.Proofs.Ythjgmnafbikihaa
