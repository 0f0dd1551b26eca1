/-
  Words for memory: literals of two wide elements; a struct literal of one wide field.
-/
import Derived.Test.YthjgmnafbikihaaBld
set_option linter.unusedVariables false
set_option linter.unusedSimpArgs false
namespace Go.Proofs.Ythjgmnafbikihaa
open Go.RowKit

theorem lay_size (cs : Array Value) (off : Nat) (vs : Array Value) (h : off + vs.size ≤ cs.size) : (lay cs off vs).size = cs.size := by
  have h1 : ∀ i : Nat, (lay cs off vs)[i]? = none ↔ cs[i]? = none := by
    intro i
    rw [lay_get cs off vs h i]
    by_cases hi : off ≤ i ∧ i < off + vs.size
    · rw [if_pos hi, Array.getElem?_eq_none_iff, Array.getElem?_eq_none_iff]
      constructor <;> intro _ <;> omega
    · rw [if_neg hi]
  have h2 := h1 cs.size
  have h3 := h1 (lay cs off vs).size
  simp only [Array.getElem?_eq_none_iff] at h2 h3
  have := h2.2 (Nat.le_refl _)
  have := h3.1 (Nat.le_refl _)
  omega
theorem lay_two (Z x y : Array Value) (hy : y.size = x.size) (hZ : Z.size = x.size + x.size) : lay (lay Z 0 x) x.size y = x ++ y := by
  apply Array.ext_getElem?
  intro i
  have hs := lay_size Z 0 x (by omega)
  rw [lay_get _ _ _ (by rw [hs]; omega) i, lay_get Z 0 x (by omega) i, Array.getElem?_append]
  by_cases h1 : i < x.size
  · rw [if_neg (by omega), if_pos (by omega), if_pos h1]; simp
  · rw [if_neg h1]
    by_cases h2 : i < x.size + y.size
    · rw [if_pos (by omega)]
    · rw [if_neg (by omega), if_neg (by omega), Array.getElem?_eq_none (by omega), Array.getElem?_eq_none (by omega)]
theorem fill_cons (place : Nat → Option (Nat × Nat)) (cells : Array Value) (i off size : Nat) (v : Array Value) (rest : List (Nat × Value)) (hp : place i = some (off, size)) (hv : v.size = size) (hle : off + v.size ≤ cells.size) :
    Instr.fill place cells ((i, .agg v) :: rest) = Instr.fill place (lay cells off v) rest := by
  rw [Instr.fill]
  simp only [Value.cells, hp]
  refine (if_neg ?_).trans rfl
  simp [hv]
  omega
theorem fill_two (Z x y : Array Value) (hy : y.size = x.size) (hZ : Z.size = x.size + x.size) : Instr.fill (fun i => some (i * x.size, x.size)) Z [(0, .agg x), (1, .agg y)] = some (x ++ y) := by
  rw [fill_cons _ _ 0 0 x.size x _ (by simp) rfl (by omega), fill_cons _ _ 1 x.size x.size y _ (by simp) hy (by rw [lay_size _ _ _ (by omega)]; omega), lay_two Z x y hy hZ]
  rfl

section
variable {P : Program} {w : World}
theorem run_buildSlice_two {t e : TypeId} {i : TypeInfo} {z : Value} (x y : Array Value) (ht : P.underlying t = some (.slice e)) (hi : P.info? e = some i) (hz : i.zero = some z) (hs : i.size = x.size) (hy : y.size = x.size) (h0 : 0 < x.size) (hb : x.size ≤ 1000000) (w : World) :
    (Instr.buildSlice t 2 #[(0, .agg x), (1, .agg y)]).run P w = .ok (.slice (some ⟨w.heap.size, 0, none⟩) 2 2) (w.alloc (.cells (x ++ y) e)) := by
  have hzv : (zeroValue e).run P w = .ok z w := by simp [zeroValue, typeInfo, hi, hz]
  have hso : (sizeOf e).run P w = .ok x.size w := by simp [sizeOf, typeInfo, hi, hs]
  have hn : ¬ (2 * x.size > 2 ^ 24) := by omega
  have hn0 : ¬ (2 * x.size = 0) := by omega
  unfold Instr.buildSlice
  simp only [Sem.run_bind, run_underlying ht, Result.andThen_ok, hso]
  rw [if_neg hn, if_neg hn0]
  simp only [Sem.run_bind, Sem.run_pure, Result.andThen_ok, hzv]
  have hf := fill_two ((Array.range (2 * x.size)).map (z.cells[· % z.cells.size]!)) x y hy (by simp; omega)
  rw [show ([(0, Value.agg x), (1, Value.agg y)] : List (Nat × Value)) = #[(0, Value.agg x), (1, Value.agg y)].toList from rfl] at hf
  rw [hf]
  simp [newRow]
theorem run_build_two {t e : TypeId} {n : Nat} {i j : TypeInfo} {z : Value} (x y : Array Value) (ht : P.underlying t = some (.array n e)) (hj : P.info? t = some j) (hz : j.zero = some z) (hzs : z.cells.size = x.size + x.size) (hi : P.info? e = some i) (hs : i.size = x.size) (hy : y.size = x.size) (w : World) :
    (Instr.build t #[(0, .agg x), (1, .agg y)]).run P w = .ok (.agg (x ++ y)) w := by
  have hzv : (zeroValue t).run P w = .ok z w := by simp [zeroValue, typeInfo, hj, hz]
  have hso : (sizeOf e).run P w = .ok x.size w := by simp [sizeOf, typeInfo, hi, hs]
  unfold Instr.build
  simp only [Sem.run_bind, hzv, run_underlying ht, Result.andThen_ok, hso]
  have hf := fill_two z.cells x y hy hzs
  rw [show ([(0, Value.agg x), (1, Value.agg y)] : List (Nat × Value)) = #[(0, Value.agg x), (1, Value.agg y)].toList from rfl] at hf
  rw [hf]
  simp

variable {ops : Array Oper} {rest : List Oper} {o : Oper} {a : Act} {Q : Exit → Act → World → Prop}
theorem wpList_build_two (t e : TypeId) (u v : Operand) (x y : Array Value) {n : Nat} {i j : TypeInfo} {z : Value} (hg : o.guard = none) (hop : o.op = .build t #[(0, u), (1, v)]) (hx : a.eval u = .agg x) (hv : a.eval v = .agg y)
    (ht : P.underlying t = some (.array n e)) (hj : P.info? t = some j) (hz : j.zero = some z) (hzs : z.cells.size = x.size + x.size) (hi : P.info? e = some i) (hs : i.size = x.size) (hy : y.size = x.size)
    (hK : wpList P ops Q rest (a.put o.dst (.agg (x ++ y))) w) : wpList P ops Q (o :: rest) a w := by
  refine wpList_plain hg fun K' hK' => ?_
  have hrun := run_build_two (P := P) x y ht hj hz hzs hi hs hy w
  unfold Oper.wp
  simp [execOp, hop, hx, hv, hrun, Result.andThen]
  exact hK' _ _ hK
theorem wpList_slice_two (t e : TypeId) (u v : Operand) (x y : Array Value) {i : TypeInfo} {z : Value} (hg : o.guard = none) (hop : o.op = .buildSlice t 2 #[(0, u), (1, v)]) (hx : a.eval u = .agg x) (hv : a.eval v = .agg y)
    (ht : P.underlying t = some (.slice e)) (hi : P.info? e = some i) (hz : i.zero = some z) (hs : i.size = x.size) (hy : y.size = x.size) (h0 : 0 < x.size) (hb : x.size ≤ 1000000)
    (hK : wpList P ops Q rest (a.put o.dst (.slice (some ⟨w.heap.size, 0, none⟩) 2 2)) (w.alloc (.cells (x ++ y) e))) : wpList P ops Q (o :: rest) a w := by
  refine wpList_plain hg fun K' hK' => ?_
  have hrun := run_buildSlice_two (P := P) x y ht hi hz hs hy h0 hb w
  unfold Oper.wp
  simp [execOp, hop, hx, hv, hrun, Result.andThen]
  exact hK' _ _ hK
end
end Go.Proofs.Ythjgmnafbikihaa
