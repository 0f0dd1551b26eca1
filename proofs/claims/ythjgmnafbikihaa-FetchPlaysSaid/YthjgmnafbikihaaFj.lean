/-
  Fetch: a table's wants, in order: Open.
-/
import Derived.Test.YthjgmnafbikihaaFi
set_option linter.unusedVariables false
set_option linter.unusedSimpArgs false
namespace Go.Proofs.Ythjgmnafbikihaa
open Go.RowKit Go.Maps Go.Sort

theorem wrow_length (ss : List WS) : (wrow ss).length = ss.length * 66 := by
  induction ss with
  | nil => rfl
  | cons x ss ih =>
    have h1 := wcells_length x.2
    simp only [wrow, List.flatMap_cons, List.length_append, List.length_cons] at ih ⊢
    rw [ih]
    show (wcells x.1).length + _ = _
    omega
theorem wrow_get {ss : List WS} {i j : Nat} (hi : i < ss.length) (hj : j < 66) : (wrow ss)[i * 66 + j]? = (encS (ss.getD i default))[j]? := by
  induction ss generalizing i with
  | nil => simp at hi
  | cons x ss ih =>
    have h1 : (encS x).length = 66 := wcells_length x.2
    cases i with
    | zero =>
      simp only [wrow, List.flatMap_cons, Nat.zero_mul, Nat.zero_add, List.getD_cons_zero]
      rw [List.getElem?_append_left (by omega)]
    | succ i =>
      have := ih (i := i) (by simpa using hi)
      simp only [wrow, List.flatMap_cons, List.getD_cons_succ] at this ⊢
      rw [List.getElem?_append_right (by omega), ← this]
      congr 1
      omega
theorem flat_wrow (ss : List WS) : (flatK encS 66 ss.toArray).toList = wrow ss := by
  apply List.ext_getElem?
  intro t
  have hl := wrow_length ss
  by_cases ht : t < ss.length * 66
  · have h1 : t / 66 < ss.length := by omega
    have h2 : t % 66 < 66 := by omega
    have h3 := wrow_get h1 h2
    rw [show t / 66 * 66 + t % 66 = t by omega] at h3
    rw [h3, Array.getElem?_toList, flatK]
    have e1 : ss.toArray[t / 66]! = ss.getD (t / 66) default := by simp [h1]
    have e2 : (encS (ss.getD (t / 66) default)).length = 66 := wcells_length (ss.getD (t / 66) default).2
    have e3 : t % 66 < (encS (ss.getD (t / 66) default)).length := by omega
    rw [Array.getElem?_map, Array.getElem?_range, if_pos (by simpa using ht), Option.map_some, e1, List.getElem?_eq_getElem e3, getElem!_pos (encS (ss.getD (t / 66) default)) (t % 66) e3]
  · rw [List.getElem?_eq_none (by simp [flatK]; omega), List.getElem?_eq_none (by omega)]

theorem holds_of_row {w : World} {g : Nat} {cur : Array Value} {e : TypeId} {ss : List WS} (hb : w.heap[g]? = some (.cells cur e (0, 0))) (ht : cur.toList.take (ss.length * 66) = wrow ss) : HoldsK encS 66 w g 0 ss.toArray := by
  intro j hj
  have hj' : j < ss.length * 66 := by simpa using hj
  refine ⟨?_, by simp [World.frozen?, hb]⟩
  have h1 : (cur.toList.take (ss.length * 66))[j]? = (flatK encS 66 ss.toArray).toList[j]? := by rw [ht, flat_wrow]
  rw [List.getElem?_take_of_lt hj', Array.getElem?_toList, Array.getElem?_toList, Array.getElem?_eq_getElem hj] at h1
  simp only [World.cell?, hb, Nat.zero_add]
  simp only [Option.isSome_none, Bool.false_eq_true, if_false]
  rw [h1, getElem!_pos _ j hj]
  rfl
theorem heap_sortedK {w : World} {g n : Nat} {os : Array Obj} {cur : Array Value} {e : TypeId} {fr : Nat × Nat} (F : Array Value) (hb : w.heap[g]? = some (.cells cur e fr)) :
    (grow (putRow id (Sort.ahead w n) g 0 F) os).heap[g]? = some (.cells (putCells id 0 F cur) e fr) := by
  have hg : g < w.heap.size := (Array.getElem?_eq_some_iff.1 hb).1
  rw [heap_grow_old _ _ (by simpa using hg)]
  simp [putRow, mapBlock, Sort.ahead, Array.getElem?_modify, hb, onCells]
theorem grown_sortedK {w : World} {g n : Nat} {os : Array Obj} (F : Array Value) : w.grownBy (grow (putRow id (Sort.ahead w n) g 0 F) os) (some g) := by
  refine ⟨rfl, rfl, rfl, by simp, fun k hk hne => ?_⟩
  rw [heap_grow_old _ _ (by simpa using hk)]
  have : g ≠ k := fun e => hne (by rw [e])
  simp [putRow, mapBlock, Sort.ahead, Array.getElem?_modify, this]
theorem take_putId (cur F : Array Value) (h : F.size ≤ cur.size) : (putCells id 0 F cur).toList.take F.size = F.toList := by
  apply List.ext_getElem?
  intro j
  by_cases hj : j < F.size
  · rw [List.getElem?_take_of_lt hj, Array.getElem?_toList]
    simp [putCells, hj, show j < cur.size by omega]
  · rw [List.getElem?_take_eq_none (by omega), List.getElem?_eq_none (by simp; omega)]
theorem own_sortedK {w : World} {base g cap n : Nat} {os : Array Obj} {cur : Array Value} {ss ts : List WS} (hl : ts.length = ss.length) (hbase : base ≤ g) (hb : w.heap[g]? = some (.cells cur 35 (0, 0)))
    (h1 : ss.length ≤ cap) (h2 : cap ≤ maxLen) (h3 : cur.size = cap * 66) :
    (sortWorldK encS 66 w g 0 n ts.toArray os).ownsRow base 35 66 (.slice (some ⟨g, 0, none⟩) ss.length cap) ss.length (wrow ts) := by
  refine ⟨by rw [wrow_length, hl], .inr ⟨g, cap, _, rfl, hbase, heap_sortedK _ hb, h1, h2, by simp [putCells, h3], ?_⟩⟩
  have hF : (flatK encS 66 ts.toArray).size = ss.length * 66 := by simp [hl]
  rw [← hF, take_putId _ _ (by rw [hF, h3]; omega), flat_wrow]

theorem sortS_length (ss : List WS) : (sortS ss).length = ss.length := by unfold sortS; simp

set_option maxRecDepth 100000 in
set_option maxHeartbeats 2000000 in
theorem sorted_in (n : Nat) (hn : 4 ≤ n) (g : Nat) (lb : Array Value) (eg : ∀ args w, (callFunc g args).run Try.prog w = .ok (.enter g args) w)
    (S : List WS → Prop) (N : Nat) (hN : N ≤ maxLen) (hNb : N * 80 ≤ 140737488355328) (w : World) (hseq : SeqGives Fence.wide (n - 1 - 1 - 1) Try.prog g lb wv S N w) :
    CallsIn Fence.wide n Try.prog 24 #[.func (.func g) #[] lb, .func (.func 26) #[] #[]] w fun e w' => ∃ (v : Value) (ss : List WS), e = .returned v ∧ S ss ∧
      w'.ownsRow w.heap.size 35 66 v ss.length (wrow (sortS ss)) ∧ Below w.heap.size w w' := by
  have h1 : 1 ≤ n := by omega
  have hf30 : Fence.wide.fn 30 := trivial
  have hf31 : Fence.wide.fn 31 := trivial
  refine callsIn_of_wp Try.func24 rfl trivial ?_ rfl
  simp only [Try.ntmps24, List.size_toArray, List.length_cons, List.length_nil, Nat.reduceAdd, Nat.reduceSub, Array.replicate_succ, Array.replicate_zero, List.push_toArray, List.append_toArray, List.nil_append, List.cons_append]
  gi_wp2_with (gi_at_call 30; refine (collect_in Fence.wide (n - 1) trivial trivial rfl (by omega) g lb trivial eg _ N hN hNb _ hseq.bounded).mono ?_; rintro e W ⟨v, ss, rfl, ⟨hS, hlen⟩, hrow, hnil, hb⟩)
  rcases hrow.2 with ⟨rfl, hz⟩ | ⟨gb, cap, cur, rfl, hbase, hgb, r1, r2, r3, r4⟩
  · have hss : ss = [] := List.eq_nil_of_length_eq_zero hz
    subst hss
    gi_wp2_with (gi_at_call 31; refine (callsIn_wide.2 (sort_none none 0 W)).mono ?_; rintro e w' ⟨rfl, rfl⟩)
    go_ret
    exact ⟨.slice none 0 0, [], rfl, hS, by simpa [sortS] using hrow, hb⟩
  · have hH : HoldsK encS 66 W gb 0 ss.toArray := holds_of_row hgb r4
    have hgl : gb < W.heap.size := (Array.getElem?_eq_some_iff.1 hgb).1
    have cS := sort_any gb 0 cap ss.toArray W hH hgl (by simp; omega)
    rw [List.size_toArray] at cS
    have HC := Lib.hid cS
    clear cS hH
    gi_wp2_with (gi_at_call 31; refine (callsIn_wide.2 HC.out).mono ?_; rintro e w' ⟨rfl, nn, os, rfl⟩)
    go_ret
    exact ⟨_, ss, rfl, hS, own_sortedK (sortS_length ss) hbase hgb r1 r2 r3, hb.grown (grown_sortedK _) hb.size (fun j hj => by cases hj; exact hbase)⟩
end Go.Proofs.Ythjgmnafbikihaa
