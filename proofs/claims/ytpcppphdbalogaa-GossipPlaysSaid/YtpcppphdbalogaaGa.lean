/-
  Gossip: what was told, as a set of arrays of 32 bytes: the map that the call made, read by a plain function.
-/
import Derived.Test.YtpcppphdbalogaaDa
import Derived.Maps.OwnSet
import Derived.WideKeyArr
namespace Go.Proofs.Ytpcppphdbalogaa
open Go.RowKit Go.Maps

theorem Try.cells5 : Try.prog.cellsOf 5 = 1 := by kernel_rfl
theorem Try.u5 : Try.prog.underlying 5 = some (.int .u8) := by kernel_rfl
theorem arr36 : Go.WideMaps.ArrKey Try.prog 36 5 32 := ⟨Try.underlying36, by kernel_rfl, Try.cells5, by kernel_rfl⟩
theorem law36 : Keyed Try.prog 36 := Keyed.of_law arr36.law
theorem sizeT : ∃ m, Try.prog.types.size = m + 1 := ⟨Try.prog.types.size - 1, by kernel_rfl⟩

/-- an array of 32 bytes. -/
def IsH (zs : List Int) : Prop := zs.length = 32 ∧ ∀ z ∈ zs, (Lit.int .u8 z).wf = true
def hv (zs : List Int) : Value := .agg (zs.map (Value.int .u8)).toArray

theorem hv_inj {xs ys : List Int} (h : hv xs = hv ys) : xs = ys := by
  unfold hv at h
  injection h with h
  have h2 : (xs.map (Value.int .u8)) = (ys.map (Value.int .u8)) := by simpa using congrArg Array.toList h
  exact (List.map_inj_right (fun a b e => by injection e)).1 h2

theorem lits_some {D : Nat} {zs : List Int} (h : IsH zs) : ∀ L : List Nat, (∀ i ∈ L, i < 32) →
    ∃ r, L.mapM (fun i => Try.prog.keyLits (D + 1) 5 (((zs.map (Value.int .u8)).drop (i * 1)).take 1)) = some r
  | [], _ => ⟨[], rfl⟩
  | i :: L, hL => by
    obtain ⟨r, hr⟩ := lits_some h L (fun j hj => hL j (by simp [hj]))
    have hi : i < zs.length := by rw [h.1]; exact hL i (by simp)
    refine ⟨[.int .u8 zs[i]] :: r, ?_⟩
    have e1 : ((zs.map (Value.int .u8)).drop (i * 1)).take 1 = [.int .u8 zs[i]] := by
      rw [Nat.mul_one, List.drop_eq_getElem_cons (by simpa using hi)]
      simp
    rw [List.mapM_cons, hr, e1]
    simp [Program.keyLits, h.2 _ (List.getElem_mem hi)]

theorem keyOf_hv {zs : List Int} (h : IsH zs) : ∃ kl, keyOf Try.prog 36 (hv zs) = some kl := by
  have hkt := arr36.keyType sizeT
  obtain ⟨m, hm⟩ := sizeT
  obtain ⟨r, hr⟩ := lits_some (D := m) h (List.range 32) (fun i hi => List.mem_range.1 hi)
  unfold keyOf hv
  simp only [arr36.hu]
  rw [if_pos (by simp [hkt, Value.formed, arr36.hu, arr36.size, h.1]), hm]
  unfold Program.keyLits
  simp only [arr36.hu, Value.cells]
  rw [if_pos (by rw [arr36.size]; simpa using h.1)]
  simp only [Try.cells5]
  rw [hr]
  exact ⟨_, rfl⟩

theorem zero4 (w : World) : (zeroValue 4).run Try.prog w = .ok (.bool false) w := by kernel_rfl

/-- the map in block 'b': at most n keys, those for which T says so. -/
def Tld (w : World) (b n : Nat) (T : List Int → Bool) : Prop :=
  ∃ D : DataW Unit, w.ownsMap Try.prog 36 (plainElem Try.prog 4) b n D ∧ IsMap D ∧ ∀ zs kl, IsH zs → keyOf Try.prog 36 (hv zs) = some kl → D.atKey kl (.lit (.bool false)) = .lit (.bool (T zs))

theorem tld_made (w : World) : Tld (w.alloc (.map #[] 0)) w.heap.size 0 (fun _ => false) :=
  ⟨.map [], World.ownsMap_made _ _ _ _, isMap_empty, fun _ _ _ _ => rfl⟩

theorem Tld.mono {w : World} {b n n' : Nat} {T : List Int → Bool} (h : Tld w b n T) (hn : n ≤ n') : Tld w b n' T := by
  obtain ⟨D, h1, h2⟩ := h
  exact ⟨D, h1.mono hn, h2⟩
theorem Tld.lt {w : World} {b n : Nat} {T : List Int → Bool} (h : Tld w b n T) : b < w.heap.size := by
  obtain ⟨D, h1, _⟩ := h
  exact h1.lt
theorem Tld.kept {w w' : World} {b n : Nat} {T : List Int → Bool} {row : Option Nat} (h : Tld w b n T) (hg : w.grownBy w' row) (hne : some b ≠ row) : Tld w' b n T := by
  obtain ⟨D, h1, h2⟩ := h
  exact ⟨D, h1.kept hg hne, h2⟩
theorem Tld.block {w w' : World} {b n : Nat} {T : List Int → Bool} (h : Tld w b n T) (e : w'.heap[b]? = w.heap[b]?) : Tld w' b n T := by
  obtain ⟨D, ⟨es, c, hb, r⟩, h2⟩ := h
  exact ⟨D, ⟨es, c, e.trans hb, r⟩, h2⟩
theorem Tld.drewN {w : World} {b n : Nat} {T : List Int → Bool} (h : Tld w b n T) (q : Nat) : Tld (w.drewN q) b n T := h.block rfl

theorem bool_inv {v : Value} {z : DataW Unit × List MemPlace} (h : plainElem Try.prog 4 v = some z) : ∃ x, v = .bool x ∧ z = (.lit (.bool x), []) := by
  unfold plainElem at h
  rw [Try.underlying4] at h
  cases v <;> simp at h
  subst h
  exact ⟨_, rfl, rfl⟩

theorem Tld.look {w : World} {b n : Nat} {T : List Int → Bool} (h : Tld w b n T) {zs : List Int} (hz : IsH zs) :
    (Instr.lookup 55 (.map (some b)) (hv zs) false).run Try.prog w = .ok (.bool (T zs)) w := by
  obtain ⟨D, h1, _, h2⟩ := h
  obtain ⟨kl, hk⟩ := keyOf_hv hz
  obtain ⟨v, ps, hrun, hv⟩ := h1.lookup law36 Try.underlying55 (zero4 w) (plainElem_bool Try.underlying4 false) hk
  obtain ⟨x, rfl, hx⟩ := bool_inv hv
  rw [h2 zs kl hz hk] at hx
  simp only [Prod.mk.injEq, DataW.lit.injEq, Lit.bool.injEq] at hx
  rw [hrun, hx.1]

theorem Tld.put {w : World} {b n : Nat} {T : List Int → Bool} (h : Tld w b n T) (hn : n < maxLen) {zs : List Int} (hz : IsH zs) :
    ∃ w', (Instr.mapUpdate 55 (.map (some b)) (hv zs) (.bool true)).run Try.prog w = .ok () w' ∧ Tld w' b (n + 1) (fun x => decide (x = zs) || T x) ∧ w.grownBy w' (some b) := by
  obtain ⟨D, h1, hm, h2⟩ := h
  obtain ⟨kl, hk⟩ := keyOf_hv hz
  obtain ⟨w', hrun, h3, h4⟩ := h1.update law36 Try.underlying55 hn hk (plainElem_bool Try.underlying4 true)
  refine ⟨w', hrun, ⟨_, h3, hm.put _ _, fun xs kx hx hkx => ?_⟩, h4⟩
  by_cases e : xs = zs
  · subst e
    rw [hk] at hkx
    injection hkx with hkx
    subst hkx
    rw [atKey_put_same hm (law36.key hk)]
    simp
  · have hne : kx ≠ kl := fun e' => e (hv_inj (law36.inj (by rw [hkx, e']) hk))
    rw [atKey_put_other hne, h2 xs kx hx hkx]
    simp [e]
end Go.Proofs.Ytpcppphdbalogaa
