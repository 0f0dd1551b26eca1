/-
  Fetch: an iterator over a map whose keys are wants: each comes once, in some order.
-/
import Derived.Test.YthjgmnafbikihaaFf
import Derived.Shelf.SlIter.Collect
import Derived.RangeFuncBound
set_option linter.unusedVariables false
set_option linter.unusedSimpArgs false
namespace Go.Proofs.Ythjgmnafbikihaa
open Go.RowKit Go.Maps Go.Sort

section
variable {F : Fence} {nF : Nat} {P : Program} {ops : Array Oper} {rest : List Oper} {op : Oper} {a : Act} {w : World} {Q : Exit → Act → World → Prop}
theorem wpListIn_load_range (t : TypeId) (x : Operand) (b o : Nat) (cs : Array Value) (d : TypeDesc) (hgd : op.guard = none) (ho : op.op = .load t x) (hx : a.eval x = .pointer (some ⟨b, o, none⟩))
    (hu : P.underlying t = some d) (hd : d.isRow = true) (hi : (P.info? t).map (·.size) = some cs.size) (hc : w.rangeAt b o cs.toList) (h : wpListIn F nF P ops Q rest (a.put op.dst (.agg cs)) w) : wpListIn F nF P ops Q (op :: rest) a w := by
  have hr := run_loadAt_mid (P := P) w b o t cs.toList d hc hu hd (by rw [hi]; simp)
  refine wpListIn_plain hgd fun K hK => ?_
  unfold Oper.wpIn
  refine ⟨by simp [Oper.about, ho], ?_⟩
  rw [Oper.semAt_plain F _ _ (by rw [ho]; intro c hc'; cases hc')]
  simp [execOp, ho, hx, hr, Result.andThen]
  exact hK _ _ h
theorem wpListIn_store_blk (t : TypeId) (x y : Operand) (b : Nat) (cs0 cs : Array Value) (hgd : op.guard = none) (ho : op.op = .store t x y) (hx : a.eval x = .pointer (some ⟨b, 0, none⟩)) (hy : a.eval y = .agg cs)
    (hi : (P.info? t).map (·.size) = some cs.size) (hb : Blk w b t cs0) (hl : cs.size = cs0.size) (h1 : ∀ v ∈ cs.toList, v.oneCell' = true)
    (h : ∀ w', Blk w' b t cs → w.grownBy w' (some b) → w'.drawn = w.drawn → wpListIn F nF P ops Q rest (a.put op.dst undef) w') : wpListIn F nF P ops Q (op :: rest) a w := by
  have hr := run_storeAt_mid (P := P) w b 0 t cs (fun j hj => ⟨by rw [Nat.zero_add, hb.cell, Array.getElem?_eq_getElem (by omega)]; rfl, hb.frozen _⟩) hi (by have := all_oneCell_toArray h1; simpa using this)
  refine wpListIn_plain hgd fun K hK => ?_
  unfold Oper.wpIn
  refine ⟨by simp [Oper.about, ho], ?_⟩
  rw [Oper.semAt_plain F _ _ (by rw [ho]; intro c hc'; cases hc')]
  simp [execOp, ho, hx, hy, hr, Result.andThen]
  exact hK _ _ (h _ (setCells_whole hb hl) (setCells_grown b cs.toList 0 w) (setCells_drawn b cs.toList 0 w))
theorem wpListIn_slice_one (t e : TypeId) (x : Operand) (cs : Array Value) (i : TypeInfo) (z : Value) (hg : op.guard = none) (hop : op.op = .buildSlice t 1 #[(0, x)]) (hx : a.eval x = .agg cs)
    (ht : P.underlying t = some (.slice e)) (hi : P.info? e = some i) (hz : i.zero = some z) (hs : i.size = cs.size) (hzs : z.cells.size = cs.size) (h0 : 0 < cs.size) (hb : cs.size ≤ 16777216)
    (hK : wpListIn F nF P ops Q rest (a.put op.dst (.slice (some ⟨w.heap.size, 0, none⟩) 1 1)) (w.alloc (.cells cs e))) : wpListIn F nF P ops Q (op :: rest) a w := by
  have hrun := run_buildSlice_one (P := P) cs ht hi hz hs hzs h0 hb w
  refine wpListIn_plain hg fun K' hK' => ?_
  unfold Oper.wpIn
  refine ⟨by simp [Oper.about, hop], ?_⟩
  rw [Oper.semAt_plain F _ _ (by rw [hop]; intro c hc'; cases hc')]
  simp [execOp, hop, hx, hrun, Result.andThen]
  exact hK' _ _ hK
end

section
variable {H : Type} {D0 : DataW H} {left : Lit → Bool} {ss : List WS}
/-- those that came: no key twice; a key is on the list just where the map has it and it is no longer to come. -/
def Coll (D0 : DataW H) (left : Lit → Bool) (ss : List WS) : Prop := ss.Nodup ∧ ∀ x kl, keyOf Try.prog 35 (wv x) = some kl → (x ∈ ss ↔ (has D0 kl = true ∧ left kl = false))
/-- the keys of a map. -/
def KeysAre (D0 : DataW H) (ss : List WS) : Prop := ss.Nodup ∧ ∀ x kl, keyOf Try.prog 35 (wv x) = some kl → (x ∈ ss ↔ has D0 kl = true)
theorem Coll.start (D0 : DataW H) : Coll D0 (has D0) [] := ⟨List.nodup_nil, fun x kl _ => by cases has D0 kl <;> simp⟩
theorem Coll.step (h : Coll D0 left ss) {x : WS} {kl : Lit} {y : DataW H} (hkey : keyOf Try.prog 35 (wv x) = some kl) (hlk : left kl = true) (hat : ∀ zd, D0.atKey kl zd = y) : Coll D0 (fun z => left z && !z.sameKey kl) (ss ++ [x]) := by
  have hhas : has D0 kl = true := has_true_of_atKey hat
  have hnew : x ∉ ss := fun hx => by have := ((h.2 x kl hkey).1 hx).2; rw [hlk] at this; cases this
  refine ⟨List.nodup_append.2 ⟨h.1, by simp, fun a ha b hb => by simp at hb; subst hb; exact fun e => hnew (e ▸ ha)⟩, fun y ky hky => ?_⟩
  by_cases hy : y = x
  · subst hy
    rw [hkey] at hky
    injection hky with hky
    subst hky
    simp [hhas, WideAt.sameKey_self (law35.key hkey)]
  · have hne : ky ≠ kl := fun e => hy (wv_inj (law35.inj (by rw [hky, e]) hkey))
    simp [h.2 y ky hky, hy, sameKey_ne hne]
theorem Coll.done (h : Coll D0 left ss) (hl : ∀ kl, left kl = false) : KeysAre D0 ss := ⟨h.1, fun x kl hk => by rw [h.2 x kl hk, hl]; simp⟩
end

theorem below_new {w w' : World} {o : Obj} (h : (w.alloc o).grownBy w' (some w.heap.size)) : Below w.heap.size w w' :=
  ((Below.refl _ w).alloc (Nat.le_refl _) o).grown h (by simp) (fun k e => by injection e with e; omega)
theorem grown_below {w a : World} (h : Below w.heap.size w a) (row : Option Nat) : w.grownBy a row := ⟨h.os, h.tape, h.output, h.size, fun i hi _ => h.block i hi⟩
theorem walks_below {w a : World} (h : Below w.heap.size w a) : KeepsWalks w a := ⟨h.size, fun k o hk _ => (h.block k (Array.getElem?_eq_some_iff.1 hk).1).trans hk⟩
theorem zinfo35 : (Try.prog.info? 35).map (fun i => (i.zero.map (·.cells.size), i.size)) = some (some 66, 66) := by kernel_rfl
theorem size35 (x : WS) : (Try.prog.info? 35).map (·.size) = some (encS x).toArray.size := by
  have h : (Try.prog.info? 35).map (·.size) = some 66 := by kernel_rfl
  rw [h]; simp [encS, wcells_length x.2]

set_option maxRecDepth 100000 in
set_option maxHeartbeats 1000000 in
theorem keys_iter {H : Type} (F : Fence) (n : Nat) (h32 : F.fn 32) (hro : F.round = none) (hn : 1 ≤ n) (l Bm b nn : Nat) (D0 : DataW H) {R : Value → Option (DataW H × List MemPlace)} (J : List WS → World → Prop)
    (hY : ∀ pre x W, J pre W → pre.length < Maps.size D0 → YieldAt F (n - 1) Try.prog l #[wv x] W fun e W' => e = .returned (.bool true) ∧ J (pre ++ [x]) W' ∧ KeepsWalks W W')
    (W : World) (hJ : AbidesFrom W.heap.size J) (hm : W.cell? ⟨Bm, 0, none⟩ = some (.map (some b))) (hown : W.ownsMap Try.prog 35 R b nn D0) (h0 : J [] W) :
    CallsIn F n Try.prog 32 #[.func (.yield l) #[] #[], .pointer (some ⟨Bm, 0, none⟩)] W fun e W' => (∃ v, e = .returned v) ∧ ∃ ss : List WS, KeysAre D0 ss ∧ J ss W' := by
  obtain ⟨z35, hzs, hzv⟩ := zero_agg zinfo35 (by decide)
  refine callsIn_of_wp Try.func32 rfl h32 ?_ hro
  simp only [Try.ntmps32, List.size_toArray, List.length_cons, List.length_nil, Nat.reduceAdd, Nat.reduceSub, Array.replicate_succ, Array.replicate_zero, List.push_toArray, List.append_toArray, List.nil_append, List.cons_append]
  gi_wp2_with (first
    | (gi_at_range; refine wpListIn_range_own _ rfl _ 63 rfl 35 69 law35 Try.underlying63 _ b nn _ rfl hown ?_; intro w0 hrg0 hg0 hs0)
    | gi_in)
  go_frame
  gi_loopw [3, 6, 7, 8, 9, 11, 12, 13] (fun _ _ _ _ _ _ _ _ wr => ∃ (left : Lit → Bool) (cnt : Nat) (ss : List WS), wr.ranges Try.prog 35 R b W.heap.size nn D0 left cnt ∧ ss.length + cnt ≤ Maps.size D0 ∧ Coll D0 left ss ∧ J ss wr)
    (fun _ _ _ _ _ _ _ _ wr => wr.rangeLeft b W.heap.size)
  case atStart =>
    exact ⟨_, _, [], hrg0, by simp, Coll.start D0, hJ [] W w0 none h0 hg0 (fun r e => by cases e)⟩
  case round =>
    obtain ⟨left, cnt, ss, hrg, hcs, hC, hJs⟩ := hrel
    gi_wp2_with (first
      | (gi_at_next; refine wpListIn_next_ranges _ rfl _ rfl 35 law35 R wv id (fun key kl hk => keyOf_inv hk) (fun v _ _ => ⟨v, rfl⟩) b W.heap.size nn _ _ _ rfl hrg ?_ ?_)
      | gi_in)
    · intro hc0 hl0
      gi_wp2
      go_end0
      exact ⟨⟨_, rfl⟩, ss, hC.done hl0, hJs⟩
    · intro x1 x2 x3 x4 hx c kl yd yp w2 cnt2 hkey hlk hv hat hrg2 hlt hg2 hs2 hen
      generalize (⟨((x1, x2), x3, x4), hx⟩ : WS) = x at hkey hen ⊢
      have hJ2 : J ss w2 := hJ ss wr w2 (some W.heap.size) hJs hg2 (fun r e => by cases e; exact ⟨Nat.le_refl _, hrg.iter_walk⟩)
      obtain ⟨cx, hcx⟩ : ∃ cx, (encS x).toArray = cx := ⟨_, rfl⟩
      have hwv : wv x = .agg cx := by rw [← hcx]; rfl
      have hi35 : (Try.prog.info? 35).map (·.size) = some cx.size := by rw [← hcx]; exact size35 x
      have hsz : cx.size = z35.size := by rw [← hcx, hzs]; simp [encS, wcells_length x.2]
      have hones : ∀ v ∈ cx.toList, v.oneCell' = true := by rw [← hcx]; intro v hv; exact wcells_ones x.1 v (by simpa [encS] using hv)
      rw [hwv] at hen ⊢
      clear hs2
      gi_wp2_with (first
        | (refine wpListIn_store_blk 35 (.tmp 3) (.tmp 9) w2.heap.size _ cx rfl rfl rfl rfl hi35 (Blk.new _ _ _) hsz hones ?_)
        | gi_in)
      intro w3 hb3 hg3 hd3
      have hB3 := below_new hg3
      have hJ3 : J ss w3 := hJ ss w2 w3 none hJ2 (grown_below hB3 none) (fun r e => by cases e)
      have hrg3 := hrg2.of_walks (walks_below hB3)
      have hrr := hb3.range
      obtain ⟨fn, tmps, assign, body, hy, hR⟩ := hY ss x w3 hJ3 (by omega)
      rw [hwv] at hy
      obtain ⟨nb, hnb⟩ : ∃ nb, w2.heap.size = nb := ⟨_, rfl⟩
      rw [hnb] at hrr ⊢
      have HX := Lib.hid hwv
      clear hb3 hg3 hd3 hB3 hen hwv hnb hcx
      gi_wp2_with (first
        | (refine wpListIn_load_range 35 (.tmp 3) nb 0 cx _ rfl rfl rfl Try.underlying35 rfl hi35 hrr ?_)
        | gi_in)
      refine hR.mono ?_
      rintro e W3 ⟨rfl, hJ4, hk4⟩
      gi_wp2
      have hrg4 := hrg3.of_walks hk4
      go_roundw
      case rel => exact ⟨_, cnt2, ss ++ [x], hrg4, by simp; omega, hC.step hkey hlk hat, hJ4⟩
      case measure => rw [hrg4.left_eq, hrg.left_eq]; exact hlt
end Go.Proofs.Ythjgmnafbikihaa
