/-
  Words for memory: a slice literal of one element of several cells that are whatever.
-/
import Derived.Below
import Derived.Laws.Entries
import Derived.Tactics
import Derived.ChangeKeysEq
set_option linter.unusedVariables false
set_option linter.unusedSimpArgs false
namespace Go.Proofs.Ythjgmnafbikihaa
open Go.RowKit

theorem set_run (off : Nat) : ∀ (l : List Value) (k : Nat) (cs : Array Value), off + k + l.length ≤ cs.size → ∀ i,
    ((l.zipIdx k).foldl (fun cs x => cs.setIfInBounds (off + x.2) x.1) cs)[i]? = if off + k ≤ i ∧ i < off + k + l.length then l[i - (off + k)]? else cs[i]?
  | [], k, cs, _, i => by simp; omega
  | v :: l, k, cs, h, i => by
    simp only [List.zipIdx_cons, List.foldl_cons]
    rw [set_run off l (k + 1) _ (by simp at h ⊢; omega) i]
    simp only [List.length_cons] at h ⊢
    by_cases h1 : off + (k + 1) ≤ i ∧ i < off + (k + 1) + l.length
    · rw [if_pos h1, if_pos (by omega)]
      obtain ⟨j, hj⟩ : ∃ j, i - (off + k) = j + 1 := ⟨i - (off + k) - 1, by omega⟩
      rw [hj, List.getElem?_cons_succ]
      congr 1
      omega
    · rw [if_neg h1]
      by_cases h2 : i = off + k
      · subst h2
        rw [if_pos (by omega), Nat.sub_self, List.getElem?_cons_zero, Array.getElem?_setIfInBounds_self_of_lt (by omega)]
      · rw [if_neg (by omega), Array.getElem?_setIfInBounds_ne (by omega)]

/-- 'vs' laid over 'cs' from 'off' on. -/
def lay (cs : Array Value) (off : Nat) (vs : Array Value) : Array Value := vs.zipIdx.foldl (fun cs (c, j) => cs.setIfInBounds (off + j) c) cs
theorem lay_get (cs : Array Value) (off : Nat) (vs : Array Value) (h : off + vs.size ≤ cs.size) (i : Nat) : (lay cs off vs)[i]? = if off ≤ i ∧ i < off + vs.size then vs[i - off]? else cs[i]? := by
  have h0 : lay cs off vs = (vs.toList.zipIdx 0).foldl (fun cs x => cs.setIfInBounds (off + x.2) x.1) cs := by
    unfold lay
    rw [← Array.foldl_toList, Array.toList_zipIdx]
  rw [h0, set_run off vs.toList 0 cs (by simpa using h) i]
  simp
theorem lay_whole (cs vs : Array Value) (h : vs.size = cs.size) : lay cs 0 vs = vs := by
  apply Array.ext_getElem?
  intro i
  rw [lay_get cs 0 vs (by omega) i]
  by_cases hi : i < vs.size
  · rw [if_pos (by omega)]; simp
  · rw [if_neg (by omega), Array.getElem?_eq_none (by omega), Array.getElem?_eq_none (by omega)]

theorem run_buildSlice_one {P : Program} {t e : TypeId} {i : TypeInfo} {z : Value} (cs : Array Value) (ht : P.underlying t = some (.slice e)) (hi : P.info? e = some i) (hz : i.zero = some z) (hs : i.size = cs.size) (hzs : z.cells.size = cs.size) (h0 : 0 < cs.size) (hb : cs.size ≤ 16777216) (w : World) :
    (Instr.buildSlice t 1 #[(0, .agg cs)]).run P w = .ok (.slice (some ⟨w.heap.size, 0, none⟩) 1 1) (w.alloc (.cells cs e)) := by
  have hzv : (zeroValue e).run P w = .ok z w := by simp [zeroValue, typeInfo, hi, hz]
  have hf : Instr.fill (fun i => some (i * cs.size, cs.size)) ((Array.range cs.size).map (z.cells[· % z.cells.size]!)) [(0, .agg cs)] = some cs := by
    generalize z.cells = Z
    rw [Instr.fill]
    simp only [Value.cells]
    refine (if_neg ?_).trans ?_
    · simp
    · show Instr.fill _ (lay _ (0 * cs.size) cs) [] = some cs
      rw [Nat.zero_mul, lay_whole _ _ (by simp)]
      rfl
  have hso : (sizeOf e).run P w = .ok cs.size w := by simp [sizeOf, typeInfo, hi, hs]
  have hn : ¬ (1 * cs.size > 2 ^ 24) := by omega
  have hn0 : ¬ (1 * cs.size = 0) := by omega
  unfold Instr.buildSlice
  simp only [Sem.run_bind, run_underlying ht, Result.andThen_ok, hso]
  rw [if_neg hn, if_neg hn0]
  simp only [Sem.run_bind, Sem.run_pure, Result.andThen_ok, hzv, Nat.one_mul]
  rw [show ([(0, Value.agg cs)] : List (Nat × Value)) = #[(0, Value.agg cs)].toList from rfl] at hf
  rw [hf]
  simp [newRow]

theorem wpList_slice_one {P : Program} {ops : Array Oper} {rest : List Oper} {o : Oper} {a : Act} {w : World} {Q : Exit → Act → World → Prop} (t e : TypeId) (x : Operand) (cs : Array Value) (i : TypeInfo) (z : Value)
    (hg : o.guard = none) (hop : o.op = .buildSlice t 1 #[(0, x)]) (hx : a.eval x = .agg cs) (ht : P.underlying t = some (.slice e)) (hi : P.info? e = some i) (hz : i.zero = some z) (hs : i.size = cs.size) (hzs : z.cells.size = cs.size) (h0 : 0 < cs.size) (hb : cs.size ≤ 16777216)
    (hK : wpList P ops Q rest (a.put o.dst (.slice (some ⟨w.heap.size, 0, none⟩) 1 1)) (w.alloc (.cells cs e))) : wpList P ops Q (o :: rest) a w := by
  refine wpList_plain hg fun K' hK' => ?_
  have hrun := run_buildSlice_one (P := P) cs ht hi hz hs hzs h0 hb w
  unfold Oper.wp
  simp [execOp, hop, hx, hrun, Result.andThen]
  exact hK' _ _ hK
end Go.Proofs.Ythjgmnafbikihaa
