/-
  Dice, plain: which of the first m multiples of d were met; the list of the first k multiples.
-/
namespace Go.Proofs.Ytpcppphdbalogaa

def mults (d : Int) (k : Nat) : List Int := (List.range k).map fun (i : Nat) => d * (i : Int)
theorem mults_length (d : Int) (k : Nat) : (mults d k).length = k := by simp [mults]
theorem mults_succ (d : Int) (k : Nat) : mults d (k + 1) = mults d k ++ [d * (k : Int)] := by simp [mults, List.range_succ]
theorem mults_mem {d p : Int} {k : Nat} (h : p ∈ mults d k) : ∃ q : Nat, q < k ∧ p = d * (q : Int) := by
  simp only [mults, List.mem_map, List.mem_range] at h
  obtain ⟨q, hq, e⟩ := h
  exact ⟨q, hq, e.symm⟩
theorem mults_getD (d : Int) {k i : Nat} (h : i < k) : (mults d k).getD i 0 = d * (i : Int) := by simp [mults, h]
theorem mults_nodup {d : Int} (hd : 0 < d) (k : Nat) : (mults d k).Nodup := by
  refine List.Pairwise.map _ (fun a b (h : a ≠ b) => ?_) List.nodup_range
  intro e
  have := Int.eq_of_mul_eq_mul_left (by omega) e
  omega

def seenOf (d : Int) (P : List Int) (m : Nat) : List Bool := (List.range m).map fun (i : Nat) => decide (d * (i : Int) ∈ P)
theorem seenOf_length (d : Int) (P : List Int) (m : Nat) : (seenOf d P m).length = m := by simp [seenOf]
theorem seenOf_nil (d : Int) (m : Nat) : seenOf d [] m = List.replicate m false := by
  simp [seenOf, List.map_const']
theorem seenOf_get {d : Int} {P : List Int} {m q : Nat} (h : q < m) : (seenOf d P m)[q]? = some (decide (d * (q : Int) ∈ P)) := by simp [seenOf, h]
theorem seenOf_set {d p : Int} (hd : 0 < d) {P : List Int} {m q : Nat} (hp : p = d * (q : Int)) : (seenOf d P m).set q true = seenOf d (P ++ [p]) m := by
  subst hp
  apply List.ext_getElem?
  intro i
  rw [List.getElem?_set]
  by_cases hi : i < m
  · rw [seenOf_get hi, seenOf_get hi]
    by_cases hq : q = i
    · subst hq
      rw [if_pos rfl, if_pos (by rw [seenOf_length]; exact hi)]
      simp
    · rw [if_neg hq]
      have hne : ¬ d * (i : Int) = d * (q : Int) := fun e => hq (by have := Int.eq_of_mul_eq_mul_left (by omega) e; omega)
      simp [hne]
  · have h1 : ∀ Q, (seenOf d Q m)[i]? = none := fun Q => List.getElem?_eq_none (by rw [seenOf_length]; omega)
    rw [h1, h1]
    split
    · split
      · rename_i h2; rw [seenOf_length] at h2; omega
      · rfl
    · rfl

theorem take_getD {P : List Int} {j : Nat} (h : j < P.length) : P.take (j + 1) = P.take j ++ [P.getD j 0] := by
  rw [List.take_add_one, List.getElem?_eq_getElem h]
  simp [h]
theorem nodup_not_mem {P : List Int} (hn : P.Nodup) {j : Nat} (h : j < P.length) : P.getD j 0 ∉ P.take j := by
  intro hm
  have e : P.getD j 0 = P[j] := by simp [h]
  rw [e] at hm
  obtain ⟨i, hi, he⟩ := List.mem_iff_getElem.1 hm
  rw [List.getElem_take] at he
  have hij : i < j := by simp at hi; omega
  exact (List.pairwise_iff_getElem.1 hn i j (by omega) h hij) he

def tot : List Int → Int
  | [] => 0
  | x :: l => x + tot l
theorem tot_append (a b : List Int) : tot (a ++ b) = tot a + tot b := by
  induction a with
  | nil => simp [tot]
  | cons x a ih => simp [tot, ih]; omega
theorem tot_perm {a b : List Int} (h : a.Perm b) : tot a = tot b := by
  induction h with
  | nil => rfl
  | cons x _ ih => simp [tot, ih]
  | swap x y l => simp [tot]; omega
  | trans _ _ ih1 ih2 => rw [ih1, ih2]
theorem tot_mults (k : Nat) : 2 * tot (mults 1 k) = (k : Int) * ((k : Int) - 1) := by
  induction k with
  | zero => rfl
  | succ k ih =>
    rw [mults_succ, tot_append]
    have e : ((k + 1 : Nat) : Int) * (((k + 1 : Nat) : Int) - 1) = (k : Int) * ((k : Int) - 1) + 2 * (k : Int) := by
      rw [show ((k + 1 : Nat) : Int) = (k : Int) + 1 by omega, show (k : Int) + 1 - 1 = (k : Int) by omega, Int.add_mul, Int.mul_sub]
      omega
    rw [e, ← ih]
    simp only [tot]
    omega
end Go.Proofs.Ytpcppphdbalogaa
