/-
  Net: Post.
-/
import Derived.Test.YtodmhikmjcajnaaNc
import Derived.Deep.RegionLaw
namespace Go.Proofs.Ytodmhikmjcajnaa
open Go.RowKit

theorem post_bad (N : Nat) (S : Nat → Prop) (room lost : Int) (ms : List Mail) (w : World) (h : IsNet w N S room lost ms) (f t : Int) (A : Option Addr) (n c : Nat) (hb : (node f && node t) = false) :
    Calls Try.prog 9 #[.pointer (some ⟨N, 0, none⟩), .agg #[.int .i64 f, .int .i64 t, .slice A n c]] w fun e w' => e = .returned (.bool false) ∧ IsNet w' N S room lost ms ∧ Below w.heap.size w w' := by
  have hB : Below w.heap.size w ((w.alloc (.cells #[.int .i64 f, .int .i64 t, .slice A n c] 31)).alloc (.cells #[.int .i64 f, .int .i64 t] 3)) := ((Below.refl _ w).alloc (Nat.le_refl _) _).alloc (by simp) _
  have h' := Lib.hid (h.below hB)
  clear h
  have HB := Lib.hid hb
  clear hb
  go_enter Try.func9, Try.ntmps9
  go_wp2_with fail
  refine (contains_any (w.heap.size + 1) f t _ ?_ ?_).mono ?_
  · simp
  · simp
  rintro e w' ⟨rfl, rfl⟩
  rw [HB.out]
  go_wp2
  go_ret
  exact ⟨rfl, h'.out, hB⟩

theorem post_full (N : Nat) (S : Nat → Prop) (room lost : Int) (ms : List Mail) (w : World) (h : IsNet w N S room lost ms) (f t : Int) (A : Option Addr) (n c : Nat) (hb : (node f && node t) = true) (hfull : room ≤ ms.length) (hl0 : 0 ≤ lost) (hl1 : lost ≤ 1000000) :
    Calls Try.prog 9 #[.pointer (some ⟨N, 0, none⟩), .agg #[.int .i64 f, .int .i64 t, .slice A n c]] w fun e w' => e = .returned (.bool false) ∧ IsNet w' N S room (lost + 1) ms ∧ Keeps w w' S := by
  have hB : Below w.heap.size w ((w.alloc (.cells #[.int .i64 f, .int .i64 t, .slice A n c] 31)).alloc (.cells #[.int .i64 f, .int .i64 t] 3)) := ((Below.refl _ w).alloc (Nat.le_refl _) _).alloc (by simp) _
  have h' := h.below hB
  have HB := Lib.hid hb
  clear hb
  go_enter Try.func9, Try.ntmps9
  go_wp2_with fail
  refine (contains_any (w.heap.size + 1) f t _ ?_ ?_).mono ?_
  · simp
  · simp
  rintro e w' ⟨rfl, rfl⟩
  rw [HB.out]
  generalize (w.alloc (.cells #[.int .i64 f, .int .i64 t, .slice A n c] 31)).alloc (.cells #[.int .i64 f, .int .i64 t] 3) = W at h' hB ⊢
  obtain ⟨A', c', hk, hlt, hS⟩ := h'.at_
  have h2 : W.cell? ⟨N, 2, none⟩ = some (.slice A' ms.length c') := hk.cell 2
  have h1 : W.cell? ⟨N, 1, none⟩ = some (.int .i64 lost) := hk.cell 1
  have h0 : W.cell? ⟨N, 0, none⟩ = some (.int .i64 room) := hk.cell 0
  have hf := hk.frozen 1
  have HK := Lib.hid hk
  have H' := Lib.hid h'
  clear h hk h'
  go_wp2
  go_quiet (fail)
  go_wp2
  go_ret
  exact ⟨rfl, (H'.out.drewN _).setLost _, ((Keeps.of_below hB S).drewN _).setCell (.inl hS) _⟩

theorem reads_three (w : World) (x y z : Value) (e : TypeId) : Reads (w.alloc (.cells #[x, y, z] e)) (w.heap.size + 1) 3 (some ⟨w.heap.size, 0, none⟩) 1 [x, y, z] :=
  ⟨rfl, fun _ => ⟨_, rfl, Nat.lt_succ_self _, fun j v hv => by
    match j, hv with
    | 0, hv => simp at hv; subst hv; simp [Addr.add]
    | 1, hv => simp at hv; subst hv; simp [Addr.add]
    | 2, hv => simp at hv; subst hv; simp [Addr.add]⟩⟩
theorem three_cells (f t : Int) (v : Value) (h : v.oneCell' = true) : ∀ u ∈ [Value.int .i64 f, Value.int .i64 t, v], u.oneCell' = true := fun u hu => by
  simp at hu
  rcases hu with rfl | rfl | rfl
  · rfl
  · rfl
  · exact h
theorem own_form3 {w : World} {base e size n : Nat} {v : Value} {xs : List Value} (h : w.ownsRow base e size v (n + 1) xs) : ∃ g cap, v = .slice (some ⟨g, 0, none⟩) (n + 1) cap := by
  rcases h.2 with ⟨_, h'⟩ | ⟨g, cap, cur, hv, _⟩
  · omega
  · exact ⟨g, cap, hv⟩
theorem post_app {w w4 : World} {N : Nat} {S : Nat → Prop} {room lost : Int} {lv : Value} {es : List Ent} {o : Obj} (hk : Blk w N 44 #[.int .i64 room, .int .i64 lost, lv]) (hr : Rows' w N S lv es) (hg : (w.drew.alloc o).grownBy w4 lv.ownBlock) :
    w4.cell? ⟨N, 2, none⟩ = some lv ∧ w4.frozen? ⟨N, 2, none⟩ = false ∧ Hid (Blk w4 N 44 #[.int .i64 room, .int .i64 lost, lv]) := by
  have h : Blk w4 N 44 #[.int .i64 room, .int .i64 lost, lv] := (hk.drew.alloc o).grown hg (fun e => (hr.mine N e.symm).2 rfl)
  exact ⟨h.cell 2, h.frozen 2, h⟩
theorem post_end {w w3 w4 : World} {N b n c g4 c4 m : Nat} {S : Nat → Prop} {room lost f t : Int} {lv : Value} {es : List Ent} {A : Option Addr} {d : List Int} {o : Obj}
    (hSlt : ∀ x, S x → x < w.heap.size) (hN : S N) (hW : Keeps w w3 S) (hr : Rows' w3 N S lv es) (hd : Reads w3 w3.heap.size 1 A n (bytes d)) (hA : ∀ a, A = some a → b ≤ a.block)
    (hnn : -9223372036854775808 ≤ f ∧ f ≤ 9223372036854775807 ∧ -9223372036854775808 ≤ t ∧ t ≤ 9223372036854775807) (hc : n ≤ c) (hn : n ≤ 50)
    (hg : (w3.drew.alloc o).grownBy w4 lv.ownBlock) (ho : w4.ownsRow 0 31 3 (.slice (some ⟨g4, 0, none⟩) (es.length + 1) c4) (es.length + 1) (es.flatMap Ent.cells ++ [.int .i64 f, .int .i64 t, .slice A n c]))
    (hb : (Value.slice (some ⟨g4, 0, none⟩) (es.length + 1) c4).ownBlock = lv.ownBlock ∨ (Value.slice (some ⟨g4, 0, none⟩) (es.length + 1) c4).ownBlock = some m) (hm : m = w3.heap.size + 1)
    (hK : Hid (Blk w4 N 44 #[.int .i64 room, .int .i64 lost, lv])) (hbw : w.heap.size ≤ b) :
    ∃ S', IsNet (w4.setCell ⟨N, 2, none⟩ (.slice (some ⟨g4, 0, none⟩) (es.length + 1) c4)) N S' room lost (es.map Ent.mail ++ [⟨f, t, d⟩]) ∧
      (∀ x, S' x → S x ∨ (w.heap.size ≤ x ∧ x < (w4.setCell ⟨N, 2, none⟩ (.slice (some ⟨g4, 0, none⟩) (es.length + 1) c4)).heap.size)) ∧
      Keeps w (w4.setCell ⟨N, 2, none⟩ (.slice (some ⟨g4, 0, none⟩) (es.length + 1) c4)) S := by
  have hz4 : w3.heap.size + 1 ≤ w4.heap.size := by have := hg.size; simpa using this
  have hNlt := hSlt N hN
  have hww := hW.size
  have hg4lt : g4 < w4.heap.size := (ho.lt g4 rfl).2
  have hg4 : lv.ownBlock = some g4 ∨ g4 = w3.heap.size + 1 := by
    rcases hb with e | e
    · exact .inl e.symm
    · exact .inr (by subst hm; simpa [Value.ownBlock] using e)
  have k1 : Keeps w3 (w3.drew.alloc o) S := (show Keeps w3 w3.drew S from ⟨rfl, rfl, rfl, Nat.le_refl _, fun _ _ _ => rfl⟩).alloc o
  have k2 : Keeps (w3.drew.alloc o) w4 S := Keeps.of_grown hg (fun g e _ => (hr.mine g e).1)
  have hKw : Keeps w w4 S := (hW.trans k1 (fun _ h => h) (fun _ h _ => h)).trans k2 (fun _ h => h) (fun _ h _ => h)
  refine ⟨fun x => S x ∨ (w.heap.size ≤ x ∧ x < w4.heap.size), ?_, fun x hx => by simpa using hx, hKw.setCell (.inl hN) _⟩
  have hent : ∀ e ∈ es, e.ok w4 (fun x => S x ∨ (w.heap.size ≤ x ∧ x < w4.heap.size)) N (some g4) := by
    intro e he
    have h1 := hr.ents e he
    have h2 := h1.same (w' := w4) (by omega) (fun hn a ha hlt => (hg.block a.block (by simp; omega) (h1.own hn a ha).2.2).trans (Below.heap_alloc w3.drew o a.block hlt))
    refine ⟨h2.reads, fun hn a ha => ?_, h2.cap, h2.small, h2.to⟩
    obtain ⟨k1, k2, k3⟩ := h1.own hn a ha
    refine ⟨.inl k1, k2, fun e' => ?_⟩
    injection e' with e'
    rcases hg4 with h | h
    · exact k3 (by rw [h, e'])
    · have := hSlt _ k1; omega
  have hnew : Ent.ok w4 (fun x => S x ∨ (w.heap.size ≤ x ∧ x < w4.heap.size)) N (some g4) ⟨f, t, A, n, c, d⟩ := by
    have hne : ∀ a, A = some a → some a.block ≠ lv.ownBlock := fun a ha e => by have h1 := hA a ha; have h2 := hSlt _ (hr.mine _ e.symm).1; omega
    refine ⟨reads_same hd (fun hn a ha => ?_) (by omega) rfl, fun hn a ha => ?_, hc, hn, hnn⟩
    · obtain ⟨ad, e, hlt, _⟩ := hd.2 hn
      have ha' := ha
      rw [e] at ha'
      injection ha' with ha'
      subst ha'
      exact (hg.block ad.block (by simp; omega) (hne ad ha)).trans (Below.heap_alloc w3.drew o ad.block hlt)
    · have h1 := hA a ha
      obtain ⟨ad, e, hlt, _⟩ := hd.2 hn
      have ha' : A = some a := ha
      rw [e] at ha'
      injection ha' with ha'
      subst ha'
      refine ⟨.inr ⟨by omega, by omega⟩, by omega, fun e' => ?_⟩
      injection e' with e'
      rcases hg4 with h | h
      · exact hne ad ha (by rw [h, e'])
      · omega
  have hrows : Rows' w4 N (fun x => S x ∨ (w.heap.size ≤ x ∧ x < w4.heap.size)) (.slice (some ⟨g4, 0, none⟩) (es.length + 1) c4) (es ++ [⟨f, t, A, n, c, d⟩]) := by
    refine ⟨by simpa [Ent.cells] using ho, fun g e => ?_, fun e he => ?_⟩
    · have : g4 = g := by simpa [Value.ownBlock] using e
      subst this
      rcases hg4 with h | h
      · exact ⟨.inl (hr.mine _ h).1, (hr.mine _ h).2⟩
      · exact ⟨.inr ⟨by omega, hg4lt⟩, by omega⟩
    · rcases List.mem_append.1 he with he | he
      · exact hent e he
      · simp at he; subst he; exact hnew
  have hfin := IsNet.of (room := room) (lost := lost) (fun x hx => by rcases hx with hx | hx; have := hSlt x hx; simp; omega; simpa using hx.2) (.inl hN) (hK.out.set_ 2 (.slice (some ⟨g4, 0, none⟩) (es.length + 1) c4)) (hrows.setN 2 (.slice (some ⟨g4, 0, none⟩) (es.length + 1) c4))
  simpa [Ent.mail] using hfin
theorem info31 : (Try.prog.info? 31).map (fun i => (i.zero, i.size, i.bytes)) = some (some (.agg #[.int .i64 0, .int .i64 0, .slice none 0 0]), 3, 40) := by kernel_rfl

set_option maxHeartbeats 1000000 in
theorem post_ok (N : Nat) (S : Nat → Prop) (room lost : Int) (ms : List Mail) (w : World) (h : IsNet w N S room lost ms) (f t : Int) (A : Option Addr) (n c : Nat) (d : List Int) (hr : Reads w w.heap.size 1 A n (bytes d)) (hn : n ≤ 50)
    (hb : (node f && node t) = true) (hroom : ms.length < room) (hms : ms.length ≤ 1000) :
    Calls Try.prog 9 #[.pointer (some ⟨N, 0, none⟩), .agg #[.int .i64 f, .int .i64 t, .slice A n c]] w fun e w' => e = .returned (.bool true) ∧
      ∃ S', IsNet w' N S' room lost (ms ++ [⟨f, t, d⟩]) ∧ (∀ x, S' x → S x ∨ (w.heap.size ≤ x ∧ x < w'.heap.size)) ∧ Keeps w w' S := by
  have hB : Below w.heap.size w ((w.alloc (.cells #[.int .i64 f, .int .i64 t, .slice A n c] 31)).alloc (.cells #[.int .i64 f, .int .i64 t] 3)) := ((Below.refl _ w).alloc (Nat.le_refl _) _).alloc (by simp) _
  have h' := h.below hB
  have hbox : Blk ((w.alloc (.cells #[.int .i64 f, .int .i64 t, .slice A n c] 31)).alloc (.cells #[.int .i64 f, .int .i64 t] 3)) w.heap.size 31 #[.int .i64 f, .int .i64 t, .slice A n c] := (Blk.new w 31 _).alloc _
  have hr' : Reads _ _ 1 A n (bytes d) := (hr.below hB).more hB.size
  have hnn : -9223372036854775808 ≤ f ∧ f ≤ 9223372036854775807 ∧ -9223372036854775808 ≤ t ∧ t ≤ 9223372036854775807 := by
    simp only [node, Bool.and_eq_true, decide_eq_true_eq] at hb; omega
  have HN := Lib.hid hnn
  have HB := Lib.hid hb
  clear hb hnn hr
  go_enter Try.func9, Try.ntmps9
  go_wp2_with fail
  refine (contains_any (w.heap.size + 1) f t _ ?_ ?_).mono ?_
  · simp
  · simp
  rintro e w' ⟨rfl, rfl⟩
  rw [HB.out]
  generalize (w.alloc (.cells #[.int .i64 f, .int .i64 t, .slice A n c] 31)).alloc (.cells #[.int .i64 f, .int .i64 t] 3) = W at h' hB hbox hr' ⊢
  obtain ⟨A', c', hk, hlt, hS⟩ := h'.at_
  have h2 : W.cell? ⟨N, 2, none⟩ = some (.slice A' ms.length c') := hk.cell 2
  have h0 : W.cell? ⟨N, 0, none⟩ = some (.int .i64 room) := hk.cell 0
  have hb2 : W.cell? ⟨w.heap.size, 2, none⟩ = some (.slice A n c) := hbox.cell 2
  have hSlt := h.1
  have hNw : N < w.heap.size := by obtain ⟨_, _, _, hl, _⟩ := h.at_; exact hl
  clear h hk
  have H' := Lib.hid h'
  clear h'
  go_wp2
  go_quiet (fail)
  go_wp2_with fail
  refine (clone_any A n c d _ (hr'.drewN nq) (by omega)).mono ?_
  rintro e w2 ⟨A2, c2, rfl, hr2, hA2, hnc2, hB2⟩
  have hf2 : w2.frozen? ⟨w.heap.size, 2, none⟩ = false := by
    have : Blk w2 w.heap.size 31 _ := ((hbox.drewN nq).below hB2 (hbox.drewN nq).lt)
    exact this.frozen 2
  have hbox2 : Blk w2 w.heap.size 31 #[.int .i64 f, .int .i64 t, .slice A n c] := (hbox.drewN nq).below hB2 (hbox.drewN nq).lt
  have hc2 : w2.cell? ⟨w.heap.size, 2, none⟩ = some (.slice A n c) := hbox2.cell 2
  have hnet2 := (H'.out.drewN nq).below hB2
  go_wp2_with fail
  have hbox3 := hbox2.set_ 2 (.slice A2 n c2)
  have hne : w.heap.size ≠ N := by omega
  have hW2 : Keeps w w2 S := (((Keeps.of_below hB S).drewN nq).trans (Keeps.of_below hB2 S) (fun _ h => h) (fun _ h _ => h))
  have hW3 := hW2.setCell (p := ⟨w.heap.size, 2, none⟩) (.inr (Nat.le_refl _)) (.slice A2 n c2)
  have hnet3 := hnet2.frame (w' := w2.setCell ⟨w.heap.size, 2, none⟩ (.slice A2 n c2)) (by simp) (fun k hk _ => Below.heap_setCell w2 _ _ k (fun e => by have h1 := hSlt k hk; have e' : k = w.heap.size := e; omega))
  have hr3 : Reads (w2.setCell ⟨w.heap.size, 2, none⟩ (.slice A2 n c2)) (w2.setCell ⟨w.heap.size, 2, none⟩ (.slice A2 n c2)).heap.size 1 A2 n (bytes d) :=
    reads_same hr2 (fun _ a ha => Below.heap_setCell w2 _ _ a.block (fun e => by have h1 := hA2 a ha; have h2 := hbox.lt; have e' : a.block = w.heap.size := e; simp at h1; omega)) (by simp) rfl
  have hsz3 : W.heap.size ≤ (w2.setCell ⟨w.heap.size, 2, none⟩ (.slice A2 n c2)).heap.size := by simpa using hB2.size
  generalize w2.setCell ⟨w.heap.size, 2, none⟩ (.slice A2 n c2) = W3 at hbox3 hW3 hnet3 hr3 hsz3 ⊢
  obtain ⟨_, lv, es, _, hk3, hrow3, hes⟩ := hnet3.parts
  have k0 : W3.cell? ⟨N, 2, none⟩ = some lv := hk3.cell 2
  have f0 := hk3.frozen 2
  have b0 : W3.cell? ⟨w.heap.size, 0, none⟩ = some (.int .i64 f) := hbox3.cell 0
  have b1 : W3.cell? ⟨w.heap.size, 1, none⟩ = some (.int .i64 t) := hbox3.cell 1
  have b2 : W3.cell? ⟨w.heap.size, 2, none⟩ = some (.slice A2 n c2) := hbox3.cell 2
  have hel : es.length = ms.length := by rw [← hes]; simp
  have HES := Lib.hid hes
  have HEL := Lib.hid hel
  have hes1000 : es.length ≤ 1000 := by omega
  clear hes hel hbox hbox2 hc2 hf2 hr2 hB2 hW2 hnet2 h2 h0 hb2 hr' hnet3
  have hN3 : N < W3.heap.size := by omega
  have hb3 : w.heap.size < W3.heap.size := hbox3.lt
  obtain ⟨i0, hi, hz0, hz1, hz2⟩ := info_parts info31
  go_region_law (refine step_append_any _ rfl (.tmp 40) (.tmp 42) 42 rfl 0 31 i0 _ 3 40 Try.underlying42 hi hz0 hz1 hz2 rfl (by decide) lv es.length (es.flatMap Ent.cells) (by simp [Act.eval]) (hrow3.own.alloc _) (W3.heap.size + 1) (some ⟨W3.heap.size, 0, none⟩) 1 1 [.int .i64 f, .int .i64 t, .slice A2 n c2] (by simp [Act.eval]) (reads_three _ _ _ _ _) (three_cells _ _ _ rfl) (by unfold maxLen; omega) (by omega) (Nat.zero_le _) ?_; intro v4 w4 ho4 hg4 hb4; obtain ⟨g4, c4, rfl⟩ := own_form3 ho4; obtain ⟨k4, f4, hK4⟩ := post_app hk3 hrow3 hg4)
  all_goals
    go_wp2
    go_ret
    have hE := post_end hSlt hS hW3 hrow3 hr3 hA2 HN.out hnc2 hn hg4 ho4 hb4 (by simp) hK4 (by have := hB.size; simpa using this)
    rw [HES.out] at hE
    exact ⟨rfl, hE⟩
end Go.Proofs.Ytodmhikmjcajnaa
