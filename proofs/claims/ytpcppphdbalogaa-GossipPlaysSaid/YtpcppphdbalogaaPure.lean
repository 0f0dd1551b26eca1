namespace Go.Proofs.Ytpcppphdbalogaa.Dp
/-- one pick: the state's draws are given by 'nx' (the next state) and 'vl' (what a state gives). -/
structure St where
  s : Int
  left : List Int
  out : List Int

variable (nx vl : Int → Int)

def bel (s : Int) (n : Nat) : Int × Nat := if n < 2 then (s, 0) else (nx s, (vl s % (n : Int)).toNat)

theorem bel_lt (s : Int) (n : Nat) (h : 0 < n) : (bel nx vl s n).2 < n := by
  unfold bel
  split
  · exact h
  · have h1 := Int.emod_lt_of_pos (vl s) (b := (n : Int)) (by omega)
    have h0 := Int.emod_nonneg (vl s) (b := (n : Int)) (by omega)
    show (vl s % (n : Int)).toNat < n
    omega

def stp (a : St) : St :=
  let k := (bel nx vl a.s a.left.length).2
  { s := (bel nx vl a.s a.left.length).1, left := a.left.take k ++ a.left.drop (k + 1), out := a.out ++ [a.left.getD k 0] }

def pk : Nat → Int → List Int → St
  | 0, s, l => ⟨s, l, []⟩
  | i + 1, s, l => stp nx vl (pk i s l)

theorem stp_left (a : St) (h : 0 < a.left.length) : (stp nx vl a).left.length = a.left.length - 1 := by
  have := bel_lt nx vl a.s a.left.length h
  simp only [stp, List.length_append, List.length_take, List.length_drop]
  omega

theorem stp_perm (a : St) (h : 0 < a.left.length) : ((stp nx vl a).out ++ (stp nx vl a).left).Perm (a.out ++ a.left) := by
  have hk := bel_lt nx vl a.s a.left.length h
  simp only [stp]
  generalize (bel nx vl a.s a.left.length).2 = k at hk
  have e : a.left = a.left.take k ++ a.left.getD k 0 :: a.left.drop (k + 1) := by
    have : a.left.getD k 0 = a.left[k] := by simp [List.getD, hk]
    rw [this, ← List.drop_eq_getElem_cons hk, List.take_append_drop]
  have p : (a.left.getD k 0 :: (a.left.take k ++ a.left.drop (k + 1))).Perm a.left := by
    have := (List.perm_middle (a := a.left.getD k 0) (l₁ := a.left.take k) (l₂ := a.left.drop (k + 1))).symm
    rwa [← e] at this
  rw [List.append_assoc]
  exact List.Perm.append_left _ p

theorem pk_all (i : Nat) (s : Int) (l : List Int) (h : i ≤ l.length) :
    (pk nx vl i s l).left.length = l.length - i ∧ (pk nx vl i s l).out.length = i ∧ ((pk nx vl i s l).out ++ (pk nx vl i s l).left).Perm l := by
  induction i with
  | zero => exact ⟨by simp [pk], by simp [pk], by simp [pk]⟩
  | succ i ih =>
    obtain ⟨h1, h2, h3⟩ := ih (by omega)
    have hp : 0 < (pk nx vl i s l).left.length := by omega
    refine ⟨by rw [pk, stp_left _ _ _ hp]; omega, by simp [pk, stp, h2], (stp_perm nx vl _ hp).trans h3⟩

/-- how many are picked. -/
def want (l : List Int) (many : Int) : Nat := min many.toNat l.length

/-- what is picked, and the state then. -/
def pick (s : Int) (l : List Int) (many : Int) : Int × List Int := ((pk nx vl (want l many) s l).s, (pk nx vl (want l many) s l).out)

theorem pick_length (s : Int) (l : List Int) (many : Int) : (pick nx vl s l many).2.length = want l many :=
  (pk_all nx vl _ s l (Nat.min_le_right _ _)).2.1
theorem pick_mem (s : Int) (l : List Int) (many : Int) : ∀ x ∈ (pick nx vl s l many).2, x ∈ l := fun _ hx =>
  (pk_all nx vl _ s l (Nat.min_le_right _ _)).2.2.mem_iff.1 (List.mem_append_left _ hx)
theorem pick_nodup (s : Int) (l : List Int) (many : Int) (h : l.Nodup) : (pick nx vl s l many).2.Nodup :=
  (List.nodup_append.1 ((pk_all nx vl _ s l (Nat.min_le_right _ _)).2.2.nodup_iff.2 h)).1
theorem pick_perm (s : Int) (l : List Int) (many : Int) (h : (l.length : Int) ≤ many) : ((pick nx vl s l many).2).Perm l := by
  have hw : want l many = l.length := by unfold want; omega
  obtain ⟨h1, _, h3⟩ := pk_all nx vl l.length s l (Nat.le_refl _)
  have h0 : (pk nx vl l.length s l).left = [] := List.eq_nil_of_length_eq_zero (by omega)
  rw [h0, List.append_nil] at h3
  show (pk nx vl (want l many) s l).out.Perm l
  rw [hw]; exact h3
end Go.Proofs.Ytpcppphdbalogaa.Dp
