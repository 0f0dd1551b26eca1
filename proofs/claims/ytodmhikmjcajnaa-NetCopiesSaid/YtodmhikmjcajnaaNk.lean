/-
  Net: what NetCopies holds ahead of each round: the net, and beside it the row of strings of what is under way.
-/
import Derived.Test.YtodmhikmjcajnaaNj
namespace Go.Proofs.Ytodmhikmjcajnaa
open Go.RowKit

theorem info9 : (Try.prog.info? 9).map (fun i => (i.zero, i.size, i.bytes)) = some (some (.string ⟨#[]⟩), 1, 16) := by kernel_rfl

def strs (ms : List Mail) : List Value := ms.map fun m => Value.string (strD m.d)
theorem strs_length (ms : List Mail) : (strs ms).length = ms.length := by simp [strs]
theorem strs_one (ms : List Mail) : ∀ u ∈ strs ms, u.oneCell' = true := fun u hu => by
  simp only [strs, List.mem_map] at hu
  obtain ⟨m, _, rfl⟩ := hu
  rfl
theorem str_one (s : ByteArray) : ∀ u ∈ [Value.string s], u.oneCell' = true := fun u hu => by simp at hu; subst hu; rfl

structure Cop (w wr : World) (N : Nat) (S : Nat → Prop) (ms : List Mail) (wv : Value) : Prop where
  net : IsNet wr N S 200 0 ms
  node : ∀ m ∈ ms, m.f = 0 ∧ m.t = 0
  want : wr.ownsRow w.heap.size 9 1 wv ms.length (strs ms)
  apart : ∀ g, wv.ownBlock = some g → ¬ S g
  low : ∀ x, S x → w.heap.size ≤ x
  below : Below w.heap.size w wr

theorem want_keeps {w a a' : World} {S : Nat → Prop} {wv : Value} {n : Nat} {xs : List Value} (h : a.ownsRow w.heap.size 9 1 wv n xs) (ha : ∀ g, wv.ownBlock = some g → ¬ S g) (k : Keeps a a' S) : a'.ownsRow w.heap.size 9 1 wv n xs :=
  own_same h (fun g e => k.block g (h.lt g e).2 (ha g e))
theorem apart_more {a a' : World} {B : Nat} {S S' : Nat → Prop} {wv : Value} {n : Nat} {xs : List Value} (h : a.ownsRow B 9 1 wv n xs) (ha : ∀ g, wv.ownBlock = some g → ¬ S g) (hS : ∀ x, S' x → S x ∨ (a.heap.size ≤ x ∧ x < a'.heap.size)) : ∀ g, wv.ownBlock = some g → ¬ S' g := fun g e hx => by
  rcases hS g hx with h1 | h1
  · exact ha g e h1
  · have := (h.lt g e).2; omega

/-- an append to the row of strings. -/
theorem cop_append {w w3 w4 : World} {N n m : Nat} {S : Nat → Prop} {ms : List Mail} {wv v4 : Value} {xs : List Value} {o : Obj} (hn : IsNet w3 N S 200 0 ms) (hnode : ∀ m ∈ ms, m.f = 0 ∧ m.t = 0) (hB : Below w.heap.size w w3) (hlow : ∀ x, S x → w.heap.size ≤ x)
    (ho : w3.ownsRow w.heap.size 9 1 wv n xs) (ha : ∀ g, wv.ownBlock = some g → ¬ S g) (hg : (w3.alloc o).grownBy w4 wv.ownBlock) (ho4 : w4.ownsRow w.heap.size 9 1 v4 ms.length (strs ms))
    (hb : v4.ownBlock = wv.ownBlock ∨ v4.ownBlock = some m) (hm : m = w3.heap.size + 1) : Cop w w4 N S ms v4 := by
  have hz := hg.size
  simp at hz
  refine ⟨hn.frame (by omega) (fun k hk hlt => (hg.block k (by simp; omega) (fun e => ha k e.symm hk)).trans (Below.heap_alloc w3 o k hlt)), hnode, ho4, fun g e hx => ?_, hlow,
    (hB.alloc hB.size o).grown hg (by have := hB.size; simp; omega) (fun k e => (ho.lt k e).1)⟩
  rcases hb with h | h
  · exact ha g (h.symm.trans e) hx
  · rw [h] at e
    injection e with e
    have := hn.1 g hx
    omega
theorem strs_snoc (ms : List Mail) (m : Mail) : strs (ms ++ [m]) = strs ms ++ [Value.string (strD m.d)] := by simp [strs]
theorem strs_get {ms : List Mail} {k : Nat} (hk : k < ms.length) : (strs ms)[k]? = some (.string (strD ms[k].d)) := by simp [strs, hk]
theorem strs_cut (ms : List Mail) (k : Nat) : strs (ms.take k ++ ms.drop (k + 1)) = (strs ms).take k ++ (strs ms).drop (k + 1) := by simp [strs]
theorem reads_str (w : World) (s : ByteArray) : Reads (w.alloc (.cells #[.string s] 9)) (w.heap.size + 1) 1 (some ⟨w.heap.size, 0, none⟩) 1 [.string s] :=
  ⟨rfl, fun _ => ⟨_, rfl, Nat.lt_succ_self _, fun j v hv => by
    match j, hv with
    | 0, hv => simp at hv; subst hv; simp [Addr.add]⟩⟩
theorem own_slice {w : World} {base e n : Nat} {v : Value} {xs : List Value} (h : w.ownsRow base e 1 v n xs) : ∃ A c, v = .slice A n c ∧ n ≤ c ∧ c ≤ 9223372036854775807 ∧ (0 < n → ∃ g, A = some ⟨g, 0, none⟩) := by
  rcases h.2 with ⟨rfl, rfl⟩ | ⟨g, cap, cur, rfl, _, _, h1, h2, _⟩
  · exact ⟨_, _, rfl, Nat.le_refl _, by omega, by omega⟩
  · exact ⟨_, _, rfl, h1, by unfold maxLen at h2; omega, fun _ => ⟨g, rfl⟩⟩
theorem reads_take' {w : World} {B n k : Nat} {A : Option Addr} {xs : List Value} (h : Reads w B 1 A n xs) (hk : k ≤ n) : Reads w B 1 A k (xs.take k) := by
  have hl := h.1
  refine ⟨by rw [List.length_take]; omega, fun h0 => ?_⟩
  obtain ⟨ad, e, hb, hc⟩ := h.2 (by omega)
  refine ⟨ad, e, hb, fun j u hu => hc j u ?_⟩
  rw [List.getElem?_take] at hu
  split at hu
  · exact hu
  · cases hu
theorem reads_drop' {w : World} {B B' n k g : Nat} {A : Option Addr} {xs : List Value} (h : Reads w B 1 (some ⟨g, 0, none⟩) n xs) (hA : A = some ⟨g, k, none⟩ ∧ B ≤ B') : Reads w B' 1 A (n - k) (xs.drop k) := by
  have hl := h.1
  refine ⟨by rw [List.length_drop]; omega, fun h0 => ?_⟩
  obtain ⟨rfl, hB⟩ := hA
  obtain ⟨ad, e, hb, hc⟩ := h.2 (by omega)
  injection e with e
  subst e
  refine ⟨_, rfl, Nat.lt_of_lt_of_le hb hB, fun j u hu => ?_⟩
  rw [List.getElem?_drop] at hu
  have := hc (k + j) u hu
  rw [Addr.add_lit] at this
  rw [Addr.add_lit]
  rwa [Nat.zero_add] at this

/-- a byte of a row that came in, for the walk. -/
theorem row_at {w : World} {a : Option Addr} {len cap : Nat} {zs : List Int}
    (h : (a = none ∧ len = 0 ∧ cap = 0 ∧ zs = []) ∨ ∃ x, a = some x ∧ len ≤ cap ∧ cap ≤ maxLen ∧ zs.length = cap ∧ (∀ i, i < zs.length → w.cell? (x.add i) = some (.int .u8 (zs.getD i 0))) ∧ ∀ n ∈ zs, (Lit.int .u8 n).wf = true) :
    len ≤ 9223372036854775807 ∧ ∀ j, j < len → ∃ b off v, a = some ⟨b, off, none⟩ ∧ b < w.heap.size ∧ w.cell? ⟨b, off + j, none⟩ = some (.int .u8 v) ∧ 0 ≤ v ∧ v ≤ 255 := by
  rcases h with ⟨rfl, rfl, rfl, rfl⟩ | ⟨⟨b, off, spot⟩, rfl, hl, hm, hz, hc, hw⟩
  · exact ⟨by omega, fun j hj => by omega⟩
  · refine ⟨by unfold maxLen at hm; omega, fun j hj => ?_⟩
    have cj := hc j (by omega)
    have hsp : spot = none := by simpa [Addr.add] using World.cell?_spot (hc 0 (by omega))
    subst hsp
    rw [Addr.add_lit] at cj
    have hmem : zs.getD j 0 ∈ zs := by
      have hk' : j < zs.length := by omega
      simp [hk']
    exact ⟨b, off, _, rfl, World.block_lt_of_cell? w _ cj, cj, (bounds_u8 (hw _ hmem)).1, (bounds_u8 (hw _ hmem)).2⟩

theorem own_base' {w : World} {base base' e size n : Nat} {v : Value} {xs : List Value} (h : w.ownsRow base e size v n xs) (hb : base' ≤ base) : w.ownsRow base' e size v n xs := by
  refine ⟨h.1, ?_⟩
  rcases h.2 with h' | ⟨g, cap, cur, hv, hg, r⟩
  · exact .inl h'
  · exact .inr ⟨g, cap, cur, hv, by omega, r⟩
/-- one is cut out of the row of strings: two appends to a new row. -/
theorem cop_cut {w w5 w6 w7 : World} {N k p : Nat} {S : Nat → Prop} {ms : List Mail} {v6 v7 : Value} (hn : IsNet w5 N S 200 0 (ms.take k ++ ms.drop (k + 1))) (hnode : ∀ m ∈ ms, m.f = 0 ∧ m.t = 0) (hB : Below w.heap.size w w5) (hlow : ∀ x, S x → w.heap.size ≤ x)
    (hg6 : w5.grownBy w6 (Value.slice none 0 0).ownBlock) (ho6 : w6.ownsRow w5.heap.size 9 1 v6 k ((strs ms).take k)) (hg7 : w6.grownBy w7 v6.ownBlock)
    (ho7 : w7.ownsRow w5.heap.size 9 1 v7 p ((strs ms).take k ++ (strs ms).drop (k + 1))) (hp : p = k + (ms.length - (k + 1))) (hk : k < ms.length) : Cop w w7 N S (ms.take k ++ ms.drop (k + 1)) v7 := by
  have hlen : (ms.take k ++ ms.drop (k + 1)).length = p := by rw [List.length_append, List.length_take, List.length_drop]; omega
  have hz6 := hg6.size
  have hz7 := hg7.size
  have hB6 : Below w.heap.size w w6 := hB.grown hg6 hB.size (fun k e => by simp [Value.ownBlock] at e)
  refine ⟨(hn.frame hz6 (fun x hx hlt => hg6.block x hlt (by simp [Value.ownBlock]))).frame hz7 (fun x hx hlt => hg7.block x hlt (fun e => ?_)), fun m hm => ?_, ?_, fun g e hx => ?_, hlow, hB6.grown hg7 hB6.size (fun x e => by have := (ho6.lt x e).1; have := hB.size; omega)⟩
  · have h1 := (ho6.lt x e.symm).1
    have h2 := hn.1 x hx
    omega
  · rcases List.mem_append.1 hm with h | h
    · exact hnode m (List.mem_of_mem_take h)
    · exact hnode m (List.mem_of_mem_drop h)
  · rw [hlen, strs_cut]; exact own_base' ho7 hB.size
  · have h1 := (ho7.lt g e).1
    have h2 := hn.1 g hx
    omega
end Go.Proofs.Ytodmhikmjcajnaa
