/-
  Gossip: the row of all, each twice; how many of it are told.
-/
import Derived.Test.YtpcppphdbalogaaGj
namespace Go.Proofs.Ytpcppphdbalogaa
open Go.RowKit Go.Sort

theorem sub_len : ∀ (l l' : List Int), l.Nodup → (∀ x ∈ l, x ∈ l') → l.length ≤ l'.length
  | [], _, _, _ => by simp
  | x :: l, l', hn, h => by
    have hx : x ∈ l' := h x (by simp)
    obtain ⟨hxl, hn'⟩ := List.nodup_cons.1 hn
    have := sub_len l (l'.erase x) hn' (fun y hy => (List.mem_erase_of_ne (fun (e : y = x) => by subst e; exact hxl hy)).2 (h y (by simp [hy])))
    rw [List.length_erase_of_mem hx] at this
    have hp : 0 < l'.length := List.length_pos_of_mem hx
    simp
    omega

/-- -1, -1, 0, 0, .. : k of them, each twice. -/
def dbl : Nat → List Int
  | 0 => []
  | k + 1 => dbl k ++ [(k : Int) - 1, (k : Int) - 1]
theorem dbl_length (k : Nat) : (dbl k).length = 2 * k := by
  induction k with
  | zero => rfl
  | succ k ih => simp [dbl, ih]; omega
theorem dbl_mem (k : Nat) (x : Int) : x ∈ dbl k ↔ -1 ≤ x ∧ x < (k : Int) - 1 := by
  induction k with
  | zero => simp [dbl]; try omega
  | succ k ih =>
    simp only [dbl, List.mem_append, ih, List.mem_cons, List.not_mem_nil, or_false, or_self]
    omega

theorem reads_two (w : World) (u v : Value) (e : TypeId) : Reads (w.alloc (.cells #[u, v] e)) (w.heap.size + 1) 1 (some ⟨w.heap.size, 0, none⟩) 2 [u, v] :=
  ⟨rfl, fun _ => ⟨_, rfl, Nat.lt_succ_self _, fun j x hx => by
    rw [Addr.add_lit, Nat.zero_add, (Blk.new w e #[u, v]).cell j]
    simpa using hx⟩⟩
theorem two_cell (x y : Int) : ∀ u ∈ [Value.int .i64 x, Value.int .i64 y], u.oneCell' = true := fun u hu => by
  simp at hu
  rcases hu with rfl | rfl <;> rfl

theorem all_len (m : Nat) (me : Int) (may : Int → Bool) (h0 : 0 ≤ me) (h1 : me < (m : Int)) (hmay : ∀ x : Int, 0 ≤ x → may x = true) : (oth m me may (dbl (m + 2))).length = m - 1 := by
  have hmem : ∀ x, x ∈ oth m me may (dbl (m + 2)) ↔ 0 ≤ x ∧ x < (m : Int) ∧ x ≠ me := by
    intro x
    rw [oth_mem, dbl_mem]
    constructor
    · rintro ⟨_, a, b, c, _⟩; exact ⟨a, b, c⟩
    · rintro ⟨a, b, c⟩; exact ⟨⟨by omega, by omega⟩, a, b, c, hmay x a⟩
  have hnd := oth_nodup m me may (dbl (m + 2))
  generalize oth m me may (dbl (m + 2)) = P at hmem hnd
  have hme : me ∉ P := fun h => ((hmem me).1 h).2.2 rfl
  have n1 := nodup_bound m (me :: P) (List.nodup_cons.2 ⟨hme, hnd⟩) (fun x hx => by
    rcases List.mem_cons.1 hx with rfl | hx
    · exact ⟨h0, h1⟩
    · exact ⟨((hmem x).1 hx).1, ((hmem x).1 hx).2.1⟩)
  have hr : ((List.range m).map (fun i : Nat => (i : Int))).Nodup := List.Pairwise.map _ (fun a b (h : a ≠ b) => by intro e; exact h (by omega)) List.nodup_range
  have n2 := sub_len _ (me :: P) hr (fun x hx => by
    simp only [List.mem_map, List.mem_range] at hx
    obtain ⟨i, hi, rfl⟩ := hx
    by_cases e : (i : Int) = me
    · simp [e]
    · exact List.mem_cons_of_mem _ ((hmem _).2 ⟨by omega, by omega, e⟩))
  simp at n1 n2
  omega
end Go.Proofs.Ytpcppphdbalogaa
