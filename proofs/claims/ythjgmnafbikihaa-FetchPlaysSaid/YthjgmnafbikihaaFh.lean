/-
  Fetch: what an iterator gives is collected into a row of the call's own.
-/
import Derived.Test.YthjgmnafbikihaaFg
set_option linter.unusedVariables false
set_option linter.unusedSimpArgs false
namespace Go.Proofs.Ythjgmnafbikihaa
open Go.RowKit Go.Maps Go.Sort

theorem keysFn_in (F : Fence) (n : Nat) (h25 : F.fn 25) (hro : F.round = none) (mb : Option Nat) (w : World) :
    CallsIn F n Try.prog 25 #[.map mb] w fun e w' => e = .returned (.func (.func 32) #[] #[.pointer (some ⟨w.heap.size, 0, none⟩)]) ∧ w' = w.alloc (.cells #[.map mb] 63) := by
  refine callsIn_of_wp Try.func25 rfl h25 ?_ hro
  simp only [Try.ntmps25, List.size_toArray, List.length_cons, List.length_nil, Nat.reduceAdd, Nat.reduceSub, Array.replicate_succ, Array.replicate_zero, List.push_toArray, List.append_toArray, List.nil_append, List.cons_append]
  gi_wp2
  go_ret
  exact ⟨rfl, rfl⟩

theorem keys_gives {H : Type} (F : Fence) (n : Nat) (h32 : F.fn 32) (hro : F.round = none) (hn : 1 ≤ n) (Bm b nn : Nat) (D0 : DataW H) {R : Value → Option (DataW H × List MemPlace)} (w : World) (hBm : Bm < w.heap.size)
    (hm : w.cell? ⟨Bm, 0, none⟩ = some (.map (some b))) (hown : w.ownsMap Try.prog 35 R b nn D0) :
    SeqGives F n Try.prog 32 #[.pointer (some ⟨Bm, 0, none⟩)] wv (KeysAre D0) (Maps.size D0) w := fun l J W hW hJ hY h0 => by
  have hown' : W.ownsMap Try.prog 35 R b nn D0 := by
    have hbl := hown.lt
    obtain ⟨es, clock, hb, Ft, hs, hD⟩ := hown
    exact ⟨es, clock, (hW.block b hbl).trans hb, Ft, hs, hD⟩
  exact keys_iter F n h32 hro hn l Bm b nn D0 J hY W hJ ((hW.cell (p := ⟨Bm, 0, none⟩) hBm).trans hm) hown' h0

/-- the two pieces of the collecting loop, read off the function itself. -/
def loopParts : Option Code → Code × Code
  | some (.seq _ (.seq (.seq _ (.block _ (.rangeFunc _ _ a b))) _)) => (a, b)
  | _ => (.skip, .skip)
noncomputable def apAssign : Code := (loopParts Try.f36.body).1
noncomputable def apBody : Code := (loopParts Try.f36.body).2
noncomputable def apRec (fn : FuncId) (sv : Value) (Bs D : Nat) (st : LoopState) (pend : Option Code) : Loop :=
  { state := st, pending := pend, fn, tmps := #[.slice none 0 0, sv, .pointer (some ⟨Bs, 0, none⟩), undef, .slice none 0 0, undef, sv, undef, undef, undef, undef, undef, undef], params := #[7], assign := apAssign, body := apBody, defers := D }

def wrow (ss : List WS) : List Value := ss.flatMap encS
/-- between two rounds: the box holds a slice that owns what has come so far. -/
structure ApAt (w0 : World) (fn : FuncId) (sv : Value) (Bs l D : Nat) (ss : List WS) (W : World) : Prop where
  box : ∃ v, W.heap[Bs]? = some (.cells #[v] 37 (0, 0)) ∧ W.ownsRow w0.heap.size 35 66 v ss.length (wrow ss) ∧ (v = .slice none 0 0 ↔ ss = [])
  L : W.heap[l]? = some (.loop (apRec fn sv Bs D .ready none))
  K : W.heap[D]? = some (.deferred (some []))
  below : Below w0.heap.size w0 W

theorem ap_abides (w0 : World) (fn : FuncId) (sv : Value) (Bs l D B : Nat) (hB : w0.heap.size ≤ B) : AbidesFrom B (ApAt w0 fn sv Bs l D) := fun s W W' row h hg hrow => by
  have hrow' : ∀ r, row = some r → ∃ o : Obj, W.heap[r]? = some o ∧ o.isWalk = true := fun r e => (hrow r e).2
  obtain ⟨v, hv, hr, hn⟩ := h.box
  exact ⟨⟨v, (grownBy_keeps hg hrow' hv rfl).trans hv, ownsRow_abides_a hr hg hrow', hn⟩, (grownBy_keeps hg hrow' h.L rfl).trans h.L, (grownBy_keeps hg hrow' h.K rfl).trans h.K,
    h.below.grown hg h.below.size (fun k e => Nat.le_trans hB (hrow k e).1)⟩

theorem news_new (w : World) (cx : Array Value) : ∀ j u, cx.toList[j]? = some u → (w.alloc (.cells cx 35)).cell? ((⟨w.heap.size, 0, none⟩ : Addr).add j) = some u := fun j u hu => by
  rw [Addr.add_mid, Nat.zero_add, (Blk.new w 35 cx).cell j]
  simpa using hu
theorem info35 : (Try.prog.info? 35).map (fun i => (i.zero.map (·.cells.size), i.size, i.bytes)) = some (some 66, 66, 80) := by kernel_rfl
theorem parts35 : ∃ i z, Try.prog.info? 35 = some i ∧ i.zero = some z ∧ z.cells.size = 66 ∧ i.size = 66 ∧ i.bytes = 80 := by
  have h := info35
  cases hq : Try.prog.info? 35 with
  | none => simp [hq] at h
  | some i =>
    simp [hq] at h
    obtain ⟨⟨z, hz, hc⟩, hs, hb⟩ := h
    exact ⟨i, z, rfl, hz, hc, hs, hb⟩

set_option maxRecDepth 100000 in
set_option maxHeartbeats 2000000 in
theorem apYield (F : Fence) (m : Nat) (w0 : World) (fn : FuncId) (hfn : F.fn fn) (sv : Value) (Bs l D : Nat) (hBl : Bs ≠ l) (hDl : D ≠ l) (hDB : D ≠ Bs) (h0B : w0.heap.size ≤ Bs) (h0l : w0.heap.size ≤ l)
    (N : Nat) (hN : N ≤ maxLen) (hNb : N * 80 ≤ 140737488355328) (ss : List WS) (x : WS) (W : World) (h : ApAt w0 fn sv Bs l D ss W) (hlen : ss.length < N) :
    YieldAt F m Try.prog l #[wv x] W fun e W' => e = .returned (.bool true) ∧ ApAt w0 fn sv Bs l D (ss ++ [x]) W' ∧ KeepsWalks W W' := by
  obtain ⟨z35, hzs, hzv⟩ := zero_agg zinfo35 (by decide)
  obtain ⟨i0, z0, hi, hz0, hzc, hz1, hz2⟩ := parts35
  obtain ⟨v, hv, hrow, _⟩ := h.box
  obtain ⟨cx, hcx⟩ : ∃ cx, (encS x).toArray = cx := ⟨_, rfl⟩
  have hwv : wv x = .agg cx := by rw [← hcx]; rfl
  have hi35 : (Try.prog.info? 35).map (·.size) = some cx.size := by rw [← hcx]; exact size35 x
  have h66 : cx.size = 66 := by rw [← hcx]; simp [encS, wcells_length x.2]
  have hsz : cx.size = z35.size := by rw [h66, hzs]
  have hones : ∀ v ∈ cx.toList, v.oneCell' = true := by rw [← hcx]; intro v hv; exact wcells_ones x.1 v (by simpa [encS] using hv)
  have hrx : wrow (ss ++ [x]) = wrow ss ++ cx.toList := by rw [← hcx]; simp [wrow]
  refine ⟨fn, #[.slice none 0 0, sv, .pointer (some ⟨Bs, 0, none⟩), undef, .slice none 0 0, undef, sv, wv x, undef, undef, undef, undef, undef], apAssign, apBody, by simpa [apRec] using run_yield (P := Try.prog) (args := #[wv x]) h.L rfl, roundIn_of_wpIn hfn ?_⟩
  rw [hwv]
  have hl : l < W.heap.size := (Array.getElem?_eq_some_iff.1 h.L).1
  have hHb := Lib.hid hcx
  clear hcx
  unfold apAssign
  simp only [loopParts, Try.f36]
  gi_wp2_with (first
    | (refine wpListIn_store_blk 35 (.tmp 5) (.tmp 7) W.heap.size _ cx rfl rfl rfl rfl hi35 (Blk.new _ _ _) hsz hones ?_)
    | gi_round_op_a)
  intro W1 hb1 hg1 hd1
  have hB1 := below_new hg1
  have hL1 := (hB1.block l hl).trans h.L
  have hl1 : l < W1.heap.size := (Array.getElem?_eq_some_iff.1 hL1).1
  have hr1 := hb1.range
  have hnl : W.heap.size ≠ l := by omega
  have hnw : W.heap.size < W1.heap.size := hb1.lt
  have hv1 : W1.heap[Bs]? = some (.cells #[v] 37 (0, 0)) := (hB1.block Bs (Array.getElem?_eq_some_iff.1 hv).1).trans hv
  have hK1 : W1.heap[D]? = some (.deferred (some [])) := (hB1.block D (Array.getElem?_eq_some_iff.1 h.K).1).trans h.K
  have hrow1 : W1.ownsRow w0.heap.size 35 66 v ss.length (wrow ss) := hrow.kept (grown_below hB1 none) (by cases hv' : v.ownBlock with
    | none => exact .inl rfl
    | some k => exact .inr (fun e => by cases e))
  have hbw1 : Below w0.heap.size w0 W1 := h.below.trans (hB1.mono h.below.size)
  have hk1 := walks_below hB1
  obtain ⟨nb, hnb⟩ : ∃ nb, W.heap.size = nb := ⟨_, rfl⟩
  rw [hnb] at hr1 hnl hnw ⊢
  have hbr := run_beginRound (P := Try.prog) hL1 rfl
  obtain ⟨W2, hW2⟩ : ∃ W2, W1.putObj l (.loop { apRec fn sv Bs D .ready none with state := .busy }) = W2 := ⟨_, rfl⟩
  rw [hW2] at hbr
  have hg2 : W1.grownBy W2 (some l) := by rw [← hW2]; exact grownBy_putObj_a _ _ _
  have hk2 : KeepsWalks W W2 := hk1.trans (by rw [← hW2]; exact KeepsWalks.putObj _ hL1 rfl)
  have hv2 : W2.heap[Bs]? = some (.cells #[v] 37 (0, 0)) := by rw [← hW2]; exact (World.putObj_heap_other hBl).trans hv1
  have hK2 : W2.heap[D]? = some (.deferred (some [])) := by rw [← hW2]; exact (World.putObj_heap_other hDl).trans hK1
  have hL2 : W2.heap[l]? = some (.loop { apRec fn sv Bs D .ready none with state := .busy }) := by rw [← hW2]; exact World.putObj_heap_same hl1
  have hrow2 : W2.ownsRow w0.heap.size 35 66 v ss.length (wrow ss) := hrow1.kept hg2 (ownsRow_ne_a hrow1 hL1 (fun cur e => by cases e))
  have hb2 : Below w0.heap.size w0 W2 := hbw1.grown hg2 hbw1.size (fun k e => by cases e; exact h0l)
  have hr2 : W2.rangeAt nb 0 cx.toList := fun j u hu => (World.cell?_of_block (a := ⟨nb, 0 + j, none⟩) (hg2.block nb hnw (fun e => hnl (by injection e)))).trans (hr1 j u hu)
  obtain ⟨hc2, hf2⟩ := cell_of_box_a hv2
  have hBlt : Bs < W2.heap.size := (Array.getElem?_eq_some_iff.1 hv2).1
  have hl2 : l < W2.heap.size := (Array.getElem?_eq_some_iff.1 hL2).1
  have hDlt : D < W2.heap.size := (Array.getElem?_eq_some_iff.1 hK2).1
  have ne_of : ∀ {j : Nat} {o : Obj}, W2.heap[j]? = some o → (∀ cur, o ≠ .cells cur 35 (0, 0)) → some j ≠ v.ownBlock := fun hj hno => by
    rcases ownsRow_ne_a hrow2 hj hno with e | e
    · rw [e]; simp
    · exact fun e' => e e'.symm
  clear hW2 hb1 hg1 hd1 hB1 hL1 hv1 hK1 hrow1 hbw1 hk1 hr1 hnb hzv hzs hsz
  gi_wp2
  unfold apBody
  simp only [loopParts, Try.f36]
  gi_wp2_with (first
    | (refine wpListIn_load_range 35 (.tmp 5) nb 0 cx _ rfl rfl rfl Try.underlying35 rfl hi35 hr2 ?_)
    | (refine wpListIn_slice_one 37 35 (.tmp 9) cx i0 z0 rfl rfl rfl Try.underlying37 hi hz0 (by rw [hz1, h66]) (by rw [hzc, h66]) (by omega) (by omega) ?_)
    | (gi_at_builtin; refine wpListIn_append_own _ rfl _ _ 37 rfl w0.heap.size 35 i0 z0 66 80 Try.underlying37 hi hz0 hz1 hz2 hzc (by omega) _ _ _ rfl (hrow2.alloc _) ⟨W2.heap.size, 0, none⟩ 1 1 cx.toList rfl (by simp [h66]) (news_new W2 cx) hones (by omega) (by omega) (by have := hb2.size; simp; omega) ?_; intro v' w3 hown' hg3 hnil3
       have hv3 : w3.heap[Bs]? = some (.cells #[v] 37 (0, 0)) := (hg3.block Bs (by simp; omega) (ne_of hv2 (fun cur e => by cases e))).trans ((Below.heap_alloc _ _ Bs hBlt).trans hv2)
       obtain ⟨hc3, hf3⟩ := cell_of_box_a hv3
       obtain ⟨g', cap', cur', rfl, hbase', hgb', hr1, hr2', hr3, hr4⟩ : ∃ g' cap' cur', v' = .slice (some ⟨g', 0, none⟩) (ss.length + 1) cap' ∧ w0.heap.size ≤ g' ∧ w3.heap[g']? = some (.cells cur' 35 (0, 0)) ∧ ss.length + 1 ≤ cap' ∧ cap' ≤ maxLen ∧ cur'.size = cap' * 66 ∧ cur'.toList.take ((ss.length + 1) * 66) = wrow ss ++ cx.toList := by
         rcases hown'.2 with ⟨_, h0⟩ | h'
         · exact absurd h0 (by omega)
         · exact h'
       go_frame)
    | gi_round_op_a)
  have hg3' : (W2.alloc (.cells cx 35)).grownBy w3 v.ownBlock := hg3
  have hL3 : w3.heap[l]? = some (.loop { apRec fn sv Bs D .ready none with state := .busy }) := (hg3'.block l (by simp; omega) (ne_of hL2 (fun cur e => by cases e))).trans ((Below.heap_alloc _ _ l hl2).trans hL2)
  have hK3 : w3.heap[D]? = some (.deferred (some [])) := (hg3'.block D (by simp; omega) (ne_of hK2 (fun cur e => by cases e))).trans ((Below.heap_alloc _ _ D hDlt).trans hK2)
  obtain ⟨w4, hw4⟩ : ∃ w4, w3.setCell ⟨Bs, 0, none⟩ (.slice (some ⟨g', 0, none⟩) (ss.length + 1) cap') = w4 := ⟨_, rfl⟩
  rw [hw4]
  have hg4 : w3.grownBy w4 (some Bs) := by rw [← hw4]; exact grownBy_setCell0_a _ _ _
  have hv4 : w4.heap[Bs]? = some (.cells #[.slice (some ⟨g', 0, none⟩) (ss.length + 1) cap'] 37 (0, 0)) := by rw [← hw4]; exact heap_setCell_box_a _ hv3
  have hL4 : w4.heap[l]? = some (.loop { apRec fn sv Bs D .ready none with state := .busy }) := (hg4.block l (Array.getElem?_eq_some_iff.1 hL3).1 (fun e => hBl (by cases e; rfl))).trans hL3
  have hK4 : w4.heap[D]? = some (.deferred (some [])) := (hg4.block D (Array.getElem?_eq_some_iff.1 hK3).1 (fun e => hDB (by cases e; rfl))).trans hK3
  have hrow4 := hown'.kept hg4 (ownsRow_ne_a hown' hv3 (fun cur e => by cases e))
  have hl4 : l < w4.heap.size := (Array.getElem?_eq_some_iff.1 hL4).1
  have hb3 : Below w0.heap.size w0 w3 := (hb2.alloc hb2.size _).grown hg3' (by have := hb2.size; simp; omega) (fun k e => (hrow2.lt k e).1)
  have hb4 : Below w0.heap.size w0 w4 := hb3.grown hg4 hb3.size (fun k e => by cases e; exact h0B)
  have hk4 : KeepsWalks W w4 := ((hk2.trans (KeepsWalks.alloc _ _)).trans (KeepsWalks.of_grownBy hg3' (ownsRow_not_walk_a (hrow2.alloc _)))).trans (by rw [← hw4]; exact KeepsWalks.setCell _ _ _)
  clear hw4
  refine ⟨_, _, run_endRound none hL4, rfl, ⟨⟨_, (World.putObj_heap_other hBl).trans hv4, ?_, by simp⟩, World.putObj_heap_same hl4, (World.putObj_heap_other hDl).trans hK4, hb4.grown (grownBy_putObj_a _ _ _) hb4.size (fun k e => by cases e; exact h0l)⟩, hk4.trans (KeepsWalks.putObj _ hL4 rfl)⟩
  have := hrow4.kept (grownBy_putObj_a w4 l (.loop { { apRec fn sv Bs D .ready none with state := .busy } with state := if (none : Option Code).isNone then .ready else .done, pending := none })) (ownsRow_ne_a hrow4 hL4 (fun cur e => by cases e))
  rw [hrx]
  simpa using this
end Go.Proofs.Ythjgmnafbikihaa
