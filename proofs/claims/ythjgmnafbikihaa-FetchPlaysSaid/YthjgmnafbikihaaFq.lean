/-
  Fetch: literals of wants.
-/
import Derived.Test.YthjgmnafbikihaaFo
set_option linter.unusedSimpArgs false
set_option linter.unusedVariables false
namespace Go.Proofs.Ythjgmnafbikihaa
open Go.RowKit Go.Maps Go.Sort

theorem zero35 : (Try.prog.info? 35).bind (·.zero) = some (wv default) := by kernel_rfl
theorem zeroAt35 (w : World) : (zeroValue 35).run Try.prog w = .ok (wv default) w := by
  have h := zero35
  cases hq : Try.prog.info? 35 with
  | none => rw [hq] at h; cases h
  | some i =>
    rw [hq] at h
    simp only [Option.bind] at h
    simp [zeroValue, typeInfo, hq, h]
theorem size26 (w : World) : (sizeOf 26).run Try.prog w = .ok 33 w := by
  have h : (Try.prog.info? 26).map (·.size) = some 33 := by kernel_rfl
  cases hq : Try.prog.info? 26 with
  | none => rw [hq] at h; cases h
  | some i =>
    rw [hq] at h
    simp at h
    simp [sizeOf, typeInfo, hq, h]
def wnow (k : { k : K // IsK k }) : WS := ⟨(zeroK, k.1), zeroK_ok, k.2⟩
theorem lay_now (k : { k : K // IsK k }) : lay (encS default).toArray 33 (kcells k.1).toArray = (encS (wnow k)).toArray := by
  have h1 : (kcells zeroK).length = 33 := kcells_length zeroK_ok
  have h2 : (kcells k.1).length = 33 := kcells_length k.2
  have e0 : encS default = kcells zeroK ++ kcells zeroK := rfl
  have e1 : encS (wnow k) = kcells zeroK ++ kcells k.1 := rfl
  rw [e0, e1]
  apply Array.ext_getElem?
  intro i
  rw [lay_get _ _ _ (by simp [h1, h2]) i]
  by_cases hi : 33 ≤ i ∧ i < 33 + (kcells k.1).toArray.size
  · rw [if_pos hi]
    simp only [List.getElem?_toArray]
    rw [List.getElem?_append_right (by omega), h1]
  · rw [if_neg hi]
    simp only [List.getElem?_toArray, List.size_toArray] at hi ⊢
    by_cases h3 : i < 33
    · rw [List.getElem?_append_left (by omega), List.getElem?_append_left (by omega)]
    · rw [List.getElem?_eq_none (by simp; omega), List.getElem?_eq_none (by simp; omega)]
theorem build_none (w : World) : (Instr.build 35 #[]).run Try.prog w = .ok (wv default) w := by
  unfold Instr.build
  simp only [Sem.run_bind, zeroAt35, run_underlying Try.underlying35, Result.andThen_ok]
  simp [size26, Instr.fill, wv, Value.cells]
theorem build_now (k : { k : K // IsK k }) (w : World) : (Instr.build 35 #[(1, .agg (kcells k.1).toArray)]).run Try.prog w = .ok (wv (wnow k)) w := by
  have hl := lay_now k
  have h1 : (kcells k.1).toArray.size = 33 := by simpa using kcells_length k.2
  have h0 : (encS default).toArray.size = 66 := by simpa [encS] using wcells_length (default : WS).2
  unfold Instr.build
  simp only [Sem.run_bind, zeroAt35, run_underlying Try.underlying35, Result.andThen_ok]
  simp only [size26, Sem.run_bind, Sem.run_pure, Result.andThen_ok, List.mapM_toArray, List.mapM_cons, List.mapM_nil, Sem.run_map]
  have hf : Instr.fill (fun x => (#[(0, 33), (33, 33)] : Array (Nat × Nat))[x]?) (encS default).toArray [(1, .agg (kcells k.1).toArray)] = some (encS (wnow k)).toArray := by
    rw [fill_cons _ _ 1 33 33 _ _ rfl h1 (by omega), hl]; rfl
  show Sem.run Try.prog (match Instr.fill (fun x => (#[(0, 33), (33, 33)] : Array (Nat × Nat))[x]?) (encS default).toArray [(1, .agg (kcells k.1).toArray)] with
      | some cells => pure (Value.agg cells)
      | x => stuck "build: no such field, or a part of the wrong size") w = _
  rw [hf]
  rfl
section
variable {ops : Array Oper} {rest : List Oper} {o : Oper} {a : Act} {Q : Exit → Act → World → Prop} {w : World}
theorem wpList_build_none (hg : o.guard = none) (hop : o.op = .build 35 #[]) (hK : wpList Try.prog ops Q rest (a.put o.dst (wv default)) w) : wpList Try.prog ops Q (o :: rest) a w := by
  refine wpList_plain hg fun K' hK' => ?_
  have hrun := build_none w
  unfold Oper.wp
  simp [execOp, hop, hrun, Result.andThen]
  exact hK' _ _ hK
theorem wpList_build_now (u : Operand) (k : { k : K // IsK k }) (hg : o.guard = none) (hop : o.op = .build 35 #[(1, u)]) (hu : a.eval u = .agg (kcells k.1).toArray) (hK : wpList Try.prog ops Q rest (a.put o.dst (wv (wnow k))) w) : wpList Try.prog ops Q (o :: rest) a w := by
  refine wpList_plain hg fun K' hK' => ?_
  have hrun := build_now k w
  unfold Oper.wp
  simp [execOp, hop, hu, hrun, Result.andThen]
  exact hK' _ _ hK
end
end Go.Proofs.Ythjgmnafbikihaa
