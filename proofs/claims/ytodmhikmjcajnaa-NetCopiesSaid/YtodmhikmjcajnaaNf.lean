/-
  Net: Take.
-/
import Derived.Test.YtodmhikmjcajnaaNe
namespace Go.Proofs.Ytodmhikmjcajnaa
open Go.RowKit

theorem flat_len (es : List Ent) : (es.flatMap Ent.cells).length = es.length * 3 := by
  induction es with
  | nil => rfl
  | cons e es ih => simp [Ent.cells] at ih ⊢; omega
theorem flat_get (es : List Ent) : ∀ (i j : Nat) (hi : i < es.length), j < 3 → (es.flatMap Ent.cells)[i * 3 + j]? = (es[i].cells)[j]? := by
  induction es with
  | nil => intro i j hi; simp at hi
  | cons e es ih =>
    intro i j hi hj
    rw [List.flatMap_cons]
    have hl : e.cells.length = 3 := rfl
    cases i with
    | zero => rw [List.getElem?_append_left (by rw [hl]; omega)]; simp
    | succ i =>
      rw [List.getElem?_append_right (by rw [hl]; omega), hl, show (i + 1) * 3 + j - 3 = i * 3 + j by omega, ih i j (by simpa using hi) hj]
      rfl
theorem flat_take (es : List Ent) : ∀ i, (es.flatMap Ent.cells).take (i * 3) = (es.take i).flatMap Ent.cells := by
  induction es with
  | nil => intro i; simp
  | cons e es ih =>
    intro i
    cases i with
    | zero => simp
    | succ i =>
      rw [List.flatMap_cons, List.take_succ_cons, List.flatMap_cons, List.take_append, List.take_of_length_le (by show 3 ≤ _; omega), show (i + 1) * 3 - e.cells.length = i * 3 by show (i + 1) * 3 - 3 = _; omega, ih]
theorem flat_drop (es : List Ent) : ∀ i, (es.flatMap Ent.cells).drop (i * 3) = (es.drop i).flatMap Ent.cells := by
  induction es with
  | nil => intro i; simp
  | cons e es ih =>
    intro i
    cases i with
    | zero => simp
    | succ i =>
      rw [List.flatMap_cons, List.drop_succ_cons, List.drop_append, List.drop_of_length_le (by show 3 ≤ _; omega), show (i + 1) * 3 - e.cells.length = i * 3 by show (i + 1) * 3 - 3 = _; omega, ih]
      rfl
theorem flat_one (es : List Ent) : ∀ u ∈ es.flatMap Ent.cells, u.oneCell' = true := fun u hu => by
  obtain ⟨e, _, hu⟩ := List.mem_flatMap.1 hu
  simp [Ent.cells] at hu
  rcases hu with rfl | rfl | rfl <;> rfl

theorem take_no (N : Nat) (S : Nat → Prop) (room lost i : Int) (ms : List Mail) (w : World) (h : IsNet w N S room lost ms) (hi : ¬ (0 ≤ i ∧ i < ms.length)) :
    Calls Try.prog 11 #[.pointer (some ⟨N, 0, none⟩), .int .i64 i] w fun e w' => e = .returned (.tuple #[.agg #[.int .i64 0, .int .i64 0, .slice none 0 0], .bool false]) ∧ Below w.heap.size w w' := by
  have h' := h.below ((Below.refl _ w).alloc (Nat.le_refl _) (.cells #[.int .i64 0, .int .i64 0, .slice none 0 0] 31))
  have HT := Lib.hid (there_any N S room lost i ms _ h' false (by simp; omega))
  clear h h' hi
  go_enter Try.func11, Try.ntmps11
  go_wp2_with (go_at_call 17; go_must (refine HT.out.mono ?_); rintro e w' ⟨rfl, rfl⟩)
  exact bodyPost_ret (v := .tuple #[.agg #[.int .i64 0, .int .i64 0, .slice none 0 0], .bool false]) (by simp [results, Try.results11, go_sem]) rfl ⟨rfl, (Below.refl _ _).alloc (Nat.le_refl _) _⟩

theorem take_end {w W w2 : World} {N g cap m i : Nat} {S : Nat → Prop} {room lost : Int} {es : List Ent} {o : Obj} {u0 u1 u2 : Value} (hi : i < es.length) (hR : Rows' W N S (.slice (some ⟨g, 0, none⟩) (m + 1) cap) es)
    (hK : Blk W N 44 #[.int .i64 room, .int .i64 lost, .slice (some ⟨g, 0, none⟩) (m + 1) cap]) (hB : Below w.heap.size w W) (hWs : W.heap.size = w.heap.size + 1) (hem : es.length = m + 1) (hg : (W.alloc o).grownBy w2 (some g))
    (ho : w2.ownsRow 0 31 3 (.slice (some ⟨g, 0, none⟩) m cap) m ((es.take i ++ es.drop (i + 1)).flatMap Ent.cells)) (hS : S N) (hSlt : ∀ x, S x → x < w.heap.size) (hgS : S g ∧ g ≠ N) :
    Reads ((((w2.setCell ⟨N, 2, none⟩ (.slice (some ⟨g, 0, none⟩) m cap)).setCell ⟨w.heap.size, 0, none⟩ u0).setCell ⟨w.heap.size, 1, none⟩ u1).setCell ⟨w.heap.size, 2, none⟩ u2) ((((w2.setCell ⟨N, 2, none⟩ (.slice (some ⟨g, 0, none⟩) m cap)).setCell ⟨w.heap.size, 0, none⟩ u0).setCell ⟨w.heap.size, 1, none⟩ u1).setCell ⟨w.heap.size, 2, none⟩ u2).heap.size 1 es[i].A es[i].n (bytes es[i].d) ∧ es[i].n ≤ 50 ∧ es[i].n ≤ es[i].c ∧
      IsNet ((((w2.setCell ⟨N, 2, none⟩ (.slice (some ⟨g, 0, none⟩) m cap)).setCell ⟨w.heap.size, 0, none⟩ u0).setCell ⟨w.heap.size, 1, none⟩ u1).setCell ⟨w.heap.size, 2, none⟩ u2) N S room lost ((es.take i ++ es.drop (i + 1)).map Ent.mail) ∧
      Keeps w ((((w2.setCell ⟨N, 2, none⟩ (.slice (some ⟨g, 0, none⟩) m cap)).setCell ⟨w.heap.size, 0, none⟩ u0).setCell ⟨w.heap.size, 1, none⟩ u1).setCell ⟨w.heap.size, 2, none⟩ u2) S := by
  have hNl := hSlt N hS
  have hgl := hSlt g hgS.1
  have hz := hg.size
  simp at hz
  have hkN2 : Blk w2 N 44 #[.int .i64 room, .int .i64 lost, .slice (some ⟨g, 0, none⟩) (m + 1) cap] := (hK.alloc o).grown hg (fun e => by injection e with e; exact hgS.2 e.symm)
  have hkN := (((hkN2.set_ 2 (.slice (some ⟨g, 0, none⟩) m cap)).far (p := ⟨w.heap.size, 0, none⟩) (by simp; omega) u0).far (p := ⟨w.heap.size, 1, none⟩) (by simp; omega) u1).far (p := ⟨w.heap.size, 2, none⟩) (by simp; omega) u2
  have hfar : ∀ k, k < w.heap.size → k ≠ N → ((((w2.setCell ⟨N, 2, none⟩ (.slice (some ⟨g, 0, none⟩) m cap)).setCell ⟨w.heap.size, 0, none⟩ u0).setCell ⟨w.heap.size, 1, none⟩ u1).setCell ⟨w.heap.size, 2, none⟩ u2).heap[k]? = w2.heap[k]? := fun k hk hne => by
    rw [Below.heap_setCell _ _ _ k (by show k ≠ w.heap.size; omega), Below.heap_setCell _ _ _ k (by show k ≠ w.heap.size; omega), Below.heap_setCell _ _ _ k (by show k ≠ w.heap.size; omega), Below.heap_setCell _ _ _ k hne]
  have hsame : ∀ k, k < w.heap.size → k ≠ N → k ≠ g → ((((w2.setCell ⟨N, 2, none⟩ (.slice (some ⟨g, 0, none⟩) m cap)).setCell ⟨w.heap.size, 0, none⟩ u0).setCell ⟨w.heap.size, 1, none⟩ u1).setCell ⟨w.heap.size, 2, none⟩ u2).heap[k]? = W.heap[k]? := fun k hk h1 h2 =>
    (hfar k hk h1).trans ((hg.block k (by simp; omega) (fun e => h2 (by injection e))).trans (Below.heap_alloc W o k (by omega)))
  have hKp : Keeps w w2 S := ((Keeps.of_below hB S).alloc o).trans (Keeps.of_grown (S := S) hg (fun x e _ => by injection e with e; subst e; exact hgS.1)) (fun _ h => h) (fun _ h _ => h)
  have hKf := (((hKp.setCell (p := ⟨N, 2, none⟩) (.inl hS) (.slice (some ⟨g, 0, none⟩) m cap)).setCell (p := ⟨w.heap.size, 0, none⟩) (.inr (Nat.le_refl _)) u0).setCell (p := ⟨w.heap.size, 1, none⟩) (.inr (Nat.le_refl _)) u1).setCell (p := ⟨w.heap.size, 2, none⟩) (.inr (Nat.le_refl _)) u2
  have hoF := own_same (w' := (((w2.setCell ⟨N, 2, none⟩ (.slice (some ⟨g, 0, none⟩) m cap)).setCell ⟨w.heap.size, 0, none⟩ u0).setCell ⟨w.heap.size, 1, none⟩ u1).setCell ⟨w.heap.size, 2, none⟩ u2) ho (fun x e => by
    have e' : g = x := by simpa [Value.ownBlock] using e
    subst e'
    exact hfar g hgl hgS.2)
  have hz6 : ((((w2.setCell ⟨N, 2, none⟩ (.slice (some ⟨g, 0, none⟩) m cap)).setCell ⟨w.heap.size, 0, none⟩ u0).setCell ⟨w.heap.size, 1, none⟩ u1).setCell ⟨w.heap.size, 2, none⟩ u2).heap.size = w2.heap.size := by simp
  generalize (((w2.setCell ⟨N, 2, none⟩ (.slice (some ⟨g, 0, none⟩) m cap)).setCell ⟨w.heap.size, 0, none⟩ u0).setCell ⟨w.heap.size, 1, none⟩ u1).setCell ⟨w.heap.size, 2, none⟩ u2 = W5 at hz6 hkN hfar hsame hKf hoF ⊢
  have hz5 : W.heap.size ≤ W5.heap.size := by omega
  have hent : ∀ e ∈ es, e.ok W5 S N (some g) := fun e he => by
    have h1 := hR.ents e he
    refine h1.same hz5 (fun hn a ha hlt => ?_)
    obtain ⟨k1, k2, k3⟩ := h1.own hn a ha
    exact hsame _ (hSlt _ k1) k2 (fun e' => k3 (by rw [e']; rfl))
  have hlen : (es.take i ++ es.drop (i + 1)).length = m := by simp; omega
  have hsub : ∀ e ∈ es.take i ++ es.drop (i + 1), e ∈ es := fun e he => by
    rcases List.mem_append.1 he with h | h
    · exact List.mem_of_mem_take h
    · exact List.mem_of_mem_drop h
  have he := hent es[i] (List.getElem_mem hi)
  refine ⟨he.reads, he.small, he.cap, ?_, hKf⟩
  refine IsNet.of (fun x hx => Nat.lt_of_lt_of_le (hSlt x hx) hKf.size) hS hkN ⟨by rw [hlen]; exact hoF, fun x e => ?_, fun e h => hent e (hsub e h)⟩
  have e' : g = x := by simpa [Value.ownBlock] using e
  subst e'
  exact hgS
set_option maxHeartbeats 800000 in
theorem take_any (N : Nat) (S : Nat → Prop) (room lost : Int) (i : Nat) (ms : List Mail) (w : World) (h : IsNet w N S room lost ms) (hi : i < ms.length) (hm : ms.length ≤ 1000) :
    Calls Try.prog 11 #[.pointer (some ⟨N, 0, none⟩), .int .i64 i] w fun e w' => ∃ A n c, e = .returned (.tuple #[.agg #[.int .i64 (ms[i].f), .int .i64 (ms[i].t), .slice A n c], .bool true]) ∧ Reads w' w'.heap.size 1 A n (bytes ms[i].d) ∧ n ≤ 50 ∧ n ≤ c ∧
      IsNet w' N S room lost (ms.take i ++ ms.drop (i + 1)) ∧ Keeps w w' S := by
  have hBa : Below w.heap.size w (w.alloc (.cells #[.int .i64 0, .int .i64 0, .slice none 0 0] 31)) := (Below.refl _ w).alloc (Nat.le_refl _) _
  have h' := h.below hBa
  have HT := Lib.hid (there_any N S room lost i ms _ h' true (by simp; omega))
  have hbox := Blk.new w 31 #[.int .i64 0, .int .i64 0, .slice none 0 0]
  have hSlt := h.1
  clear h
  go_enter Try.func11, Try.ntmps11
  go_wp2_with fail
  refine HT.out.mono ?_
  rintro e w' ⟨rfl, hw'⟩
  obtain rfl := hw'.symm
  have hWs : (w.alloc (.cells #[.int .i64 0, .int .i64 0, .slice none 0 0] 31)).heap.size = w.heap.size + 1 := by simp
  clear HT
  generalize w.alloc (.cells #[.int .i64 0, .int .i64 0, .slice none 0 0] 31) = W at h' hbox hBa hWs ⊢
  obtain ⟨_, lv, es, hS, hk, hrow, rfl⟩ := h'.parts
  have hil : i < es.length := by simpa using hi
  have hmi : (es.map Ent.mail)[i] = es[i].mail := by simp
  have HM := Lib.hid hmi
  have hel : es.length ≤ 1000 := by simpa using hm
  obtain ⟨m, hem⟩ : ∃ m, es.length = m + 1 := ⟨es.length - 1, by omega⟩
  have hown := hrow.own
  rw [hem] at hown
  obtain ⟨g, cap, rfl⟩ := own_form3 hown
  have hgS := hrow.mine g rfl
  have hgl := hSlt g hgS.1
  have hNl := hSlt N hS
  have cN : W.cell? ⟨N, 2, none⟩ = some (.slice (some ⟨g, 0, none⟩) (m + 1) cap) := hk.cell 2
  have hent := hrow.ents es[i] (List.getElem_mem hil)
  have d0 : W.cell? ⟨g, i * 3, none⟩ = some (.int .i64 es[i].f) := (hown.cellAt (i * 3 + 0) (by omega)).trans (flat_get es i 0 hil (by omega))
  have d1 : W.cell? ⟨g, i * 3 + 1, none⟩ = some (.int .i64 es[i].t) := (hown.cellAt (i * 3 + 1) (by omega)).trans (flat_get es i 1 hil (by omega))
  have d2 : W.cell? ⟨g, i * 3 + 2, none⟩ = some (.slice es[i].A es[i].n es[i].c) := (hown.cellAt (i * 3 + 2) (by omega)).trans (flat_get es i 2 hil (by omega))
  have HE := Lib.hid hem
  have him : i < m + 1 := by omega
  have hcutl : Hid ((es.flatMap Ent.cells).take (i * 3) ++ (es.flatMap Ent.cells).drop ((i + 1) * 3) = (es.take i ++ es.drop (i + 1)).flatMap Ent.cells) := by show _ = _; rw [flat_take, flat_drop, List.flatMap_append]
  have hD := Lib.hid (delete_own g cap m i (es.flatMap Ent.cells) (W.alloc (.cells #[.int .i64 es[i].f, .int .i64 es[i].t, .slice es[i].A es[i].n es[i].c] 31)) (hown.alloc _) him (by omega) (flat_one es))
  have HR := Lib.hid hrow
  have HK := Lib.hid hk
  have HEN := Lib.hid hent
  have HB := Lib.hid hbox
  clear hem hm hmi h' hrow hk hent hown hbox
  go_wp2_with fail
  refine hD.out.mono ?_
  rintro e w2 ⟨rfl, ho2, hg2⟩
  have kN2 : Blk w2 N 44 #[.int .i64 room, .int .i64 lost, .slice (some ⟨g, 0, none⟩) (m + 1) cap] := (HK.out.alloc _).grown hg2 (fun e => by injection e with e; exact hgS.2 e.symm)
  have kA2 : Blk w2 w.heap.size 31 #[.int .i64 0, .int .i64 0, .slice none 0 0] := (HB.out.alloc _).grown hg2 (fun e => by injection e with e; omega)
  have kB2 : Blk w2 (w.heap.size + 1) 31 #[.int .i64 es[i].f, .int .i64 es[i].t, .slice es[i].A es[i].n es[i].c] := by
    have := (Blk.new W 31 #[.int .i64 es[i].f, .int .i64 es[i].t, .slice es[i].A es[i].n es[i].c]).grown hg2 (fun e => by injection e with e; omega)
    rwa [hWs] at this
  have x0 := kN2.cell 2
  have x1 := kN2.frozen 2
  have a0 := kA2.cell 0
  have a1 := kA2.cell 1
  have a2 := kA2.cell 2
  have af0 := kA2.frozen 0
  have af1 := kA2.frozen 1
  have af2 := kA2.frozen 2
  have b0 := kB2.cell 0
  have b1 := kB2.cell 1
  have b2 := kB2.cell 2
  rw [hcutl.out] at ho2
  have HE2 := Lib.hid (take_end (room := room) (lost := lost) (u0 := .int .i64 es[i].f) (u1 := .int .i64 es[i].t) (u2 := .slice es[i].A es[i].n es[i].c) hil HR.out HK.out hBa hWs HE.out hg2 ho2 hS hSlt hgS)
  simp at x0 a0 a1 a2 b0 b1 b2
  have KA := Lib.hid kA2
  clear kN2 kA2 kB2 ho2 hg2 cN d0 d1 d2
  go_wp2_with fail
  have kA5 := (((KA.out.far (p := ⟨N, 2, none⟩) (by simp; omega) (.slice (some ⟨g, 0, none⟩) m cap)).set_ 0 (.int .i64 es[i].f)).set_ 1 (.int .i64 es[i].t)).set_ 2 (.slice es[i].A es[i].n es[i].c)
  have q0 := kA5.cell 0
  have q1 := kA5.cell 1
  have q2 := kA5.cell 2
  refine bodyPost_ret (v := .tuple #[.agg #[.int .i64 es[i].f, .int .i64 es[i].t, .slice es[i].A es[i].n es[i].c], .bool true]) ?_ rfl ?_
  · generalize (((w2.setCell ⟨N, 2, none⟩ (.slice (some ⟨g, 0, none⟩) m cap)).setCell ⟨w.heap.size, 0, none⟩ (.int .i64 es[i].f)).setCell ⟨w.heap.size, 1, none⟩ (.int .i64 es[i].t)).setCell ⟨w.heap.size, 2, none⟩ (.slice es[i].A es[i].n es[i].c) = W5 at q0 q1 q2 ⊢
    simp at q0 q1 q2
    simp [results, Try.results11, go_sem, q0, q1, q2]
  · obtain ⟨e1, e2, e3, e4, e5⟩ := HE2.out
    rw [HM.out]
    refine ⟨es[i].A, es[i].n, es[i].c, rfl, e1, e2, e3, ?_, e5⟩
    rw [← List.map_take, ← List.map_drop, ← List.map_append]
    exact e4
end Go.Proofs.Ytodmhikmjcajnaa
