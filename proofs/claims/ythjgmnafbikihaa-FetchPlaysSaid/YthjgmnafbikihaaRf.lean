/-
  Fetch, the document's answer: literals of its wants; a want put in its place.
-/
import Derived.Test.YthjgmnafbikihaaRe
set_option linter.unusedVariables false
set_option linter.unusedSimpArgs false
namespace Go.Proofs.Ythjgmnafbikihaa
open Go.RowKit Go.Maps Go.Sort

theorem zinfo78 : (Try.prog.info? 78).map (fun i => (i.zero.map (·.cells.size), i.size)) = some (some 68, 68) := by kernel_rfl
theorem parts78 : ∃ i z, Try.prog.info? 78 = some i ∧ i.zero = some z ∧ z.cells.size = 68 ∧ i.size = 68 ∧ i.bytes = 96 := by
  obtain ⟨i, z, h1, h2, h3, h4⟩ := zparts zinfo78
  refine ⟨i, z, h1, h2, h3, h4, ?_⟩
  have h : (Try.prog.info? 78).map (·.bytes) = some 96 := by kernel_rfl
  rw [h1] at h
  simpa using h
theorem zero78 : (Try.prog.info? 78).bind (·.zero) = some (qv (default, (0, 0))) := by kernel_rfl
theorem zeroAt78 (w : World) : (zeroValue 78).run Try.prog w = .ok (qv (default, (0, 0))) w := by
  have h := zero78
  cases hq : Try.prog.info? 78 with
  | none => rw [hq] at h; cases h
  | some i =>
    rw [hq] at h
    simp only [Option.bind] at h
    simp [zeroValue, typeInfo, hq, h]
theorem size3 (w : World) : (sizeOf 3).run Try.prog w = .ok 1 w := by
  have h : (Try.prog.info? 3).map (·.size) = some 1 := by kernel_rfl
  cases hq : Try.prog.info? 3 with
  | none => rw [hq] at h; cases h
  | some i =>
    rw [hq] at h
    simp at h
    simp [sizeOf, typeInfo, hq, h]
theorem fill_next (place : Nat → Option (Nat × Nat)) (cells : Array Value) (i off size : Nat) (v : Value) (rest : List (Nat × Value)) (hp : place i = some (off, size)) (hv : v.cells.size = size) (hle : off + size ≤ cells.size) :
    Instr.fill place cells ((i, v) :: rest) = Instr.fill place (lay cells off v.cells) rest := by
  rw [Instr.fill]
  simp only [hp]
  refine (if_neg ?_).trans rfl
  simp [hv]
  omega
theorem lay_q (x : WS) : lay (lay (lay (encQ (default, (0, 0))).toArray 0 (kcells (oldK x).1).toArray) 33 (kcells (nowK x).1).toArray) 67 #[.int .i64 1] = (encQ (x, (0, 1))).toArray := by
  have h1 : (kcells (oldK x).1).length = 33 := kcells_length (oldK x).2
  have h2 : (kcells (nowK x).1).length = 33 := kcells_length (nowK x).2
  have h3 : (kcells zeroK).length = 33 := kcells_length zeroK_ok
  have e0 : encQ (default, (0, 0)) = (kcells zeroK ++ kcells zeroK) ++ [.int .i64 0, .int .i64 0] := rfl
  have e1 : encQ (x, (0, 1)) = (kcells (oldK x).1 ++ kcells (nowK x).1) ++ [.int .i64 0, .int .i64 1] := rfl
  rw [e0, e1]
  have s0 : ((kcells zeroK ++ kcells zeroK) ++ [Value.int .i64 0, .int .i64 0]).toArray.size = 68 := by simp [h3]
  have s1 : (kcells (oldK x).1).toArray.size = 33 := by simp [h1]
  have s2 : (kcells (nowK x).1).toArray.size = 33 := by simp [h2]
  have l1 := lay_size ((kcells zeroK ++ kcells zeroK) ++ [Value.int .i64 0, .int .i64 0]).toArray 0 (kcells (oldK x).1).toArray (by rw [s0, s1]; omega)
  have l2 := lay_size (lay ((kcells zeroK ++ kcells zeroK) ++ [Value.int .i64 0, .int .i64 0]).toArray 0 (kcells (oldK x).1).toArray) 33 (kcells (nowK x).1).toArray (by rw [l1, s0, s2]; omega)
  apply Array.ext_getElem?
  intro i
  rw [lay_get _ _ _ (by rw [l2, l1, s0]; simp) i, lay_get _ _ _ (by rw [l1, s0, s2]; omega) i, lay_get _ _ _ (by rw [s0, s1]; omega) i, s1, s2]
  simp only [List.getElem?_toArray]
  by_cases c1 : i < 33
  · rw [if_neg (by omega), if_neg (by omega), if_pos (by omega), List.getElem?_append_left (by simp; omega), List.getElem?_append_left (by omega), Nat.sub_zero]
  · by_cases c2 : i < 66
    · rw [if_neg (by omega), if_pos (by omega), List.getElem?_append_left (by simp; omega), List.getElem?_append_right (by omega), h1]
    · by_cases c3 : i = 66
      · subst c3
        rw [if_neg (by omega), if_neg (by omega), if_neg (by omega), List.getElem?_append_right (by simp; omega), List.getElem?_append_right (by simp; omega)]
        simp [h1, h2, h3]
      · by_cases c4 : i = 67
        · subst c4
          rw [if_pos (by simp), List.getElem?_append_right (by simp; omega)]
          simp [h1, h2]
        · rw [if_neg (by simp; omega), if_neg (by omega), if_neg (by omega), List.getElem?_eq_none (by simp; omega), List.getElem?_eq_none (by simp; omega)]
theorem build_q (x : WS) (w : World) : (Instr.build 78 #[(0, .agg (kcells (oldK x).1).toArray), (1, .agg (kcells (nowK x).1).toArray), (3, .int .i64 1)]).run Try.prog w = .ok (qv (x, (0, 1))) w := by
  have hl := lay_q x
  have h1 : (kcells (oldK x).1).toArray.size = 33 := by simpa using kcells_length (oldK x).2
  have h2 : (kcells (nowK x).1).toArray.size = 33 := by simpa using kcells_length (nowK x).2
  have h0 : (encQ (default, (0, 0))).toArray.size = 68 := by simpa using encQ_length (default, (0, 0))
  unfold Instr.build
  simp only [Sem.run_bind, zeroAt78, run_underlying Try.underlying78, Result.andThen_ok]
  simp only [size26, size3, Sem.run_bind, Sem.run_pure, Result.andThen_ok, List.mapM_toArray, List.mapM_cons, List.mapM_nil, Sem.run_map]
  have l1 := lay_size (encQ (default, (0, 0))).toArray 0 (kcells (oldK x).1).toArray (by rw [h0, h1]; omega)
  have l2 := lay_size (lay (encQ (default, (0, 0))).toArray 0 (kcells (oldK x).1).toArray) 33 (kcells (nowK x).1).toArray (by rw [l1, h0, h2]; omega)
  have hf : Instr.fill (fun x => (#[(0, 33), (33, 33), (66, 1), (67, 1)] : Array (Nat × Nat))[x]?) (encQ (default, (0, 0))).toArray [(0, .agg (kcells (oldK x).1).toArray), (1, .agg (kcells (nowK x).1).toArray), (3, .int .i64 1)] = some (encQ (x, (0, 1))).toArray := by
    rw [fill_next _ _ 0 0 33 (.agg (kcells (oldK x).1).toArray) _ rfl h1 (by rw [h0]; omega)]
    simp only [Value.cells]
    rw [fill_next _ _ 1 33 33 (.agg (kcells (nowK x).1).toArray) _ rfl h2 (by rw [l1, h0]; omega)]
    simp only [Value.cells]
    rw [fill_next _ _ 3 67 1 (.int .i64 1) _ rfl rfl (by rw [l2, l1, h0]; omega)]
    simp only [Value.cells]
    rw [hl]; rfl
  show Sem.run Try.prog (match Instr.fill (fun x => (#[(0, 33), (33, 33), (66, 1), (67, 1)] : Array (Nat × Nat))[x]?) (encQ (default, (0, 0))).toArray [(0, .agg (kcells (oldK x).1).toArray), (1, .agg (kcells (nowK x).1).toArray), (3, .int .i64 1)] with
      | some cells => pure (Value.agg cells)
      | x => stuck "build: no such field, or a part of the wrong size") w = _
  rw [hf]
  rfl
section
variable {ops : Array Oper} {rest : List Oper} {o : Oper} {a : Act} {Q : Exit → Act → World → Prop} {w : World}
theorem wpList_build_q (u v : Operand) (x : WS) (hg : o.guard = none) (hop : o.op = .build 78 #[(0, u), (1, v), (3, .const (.int .i64 1))]) (hu : a.eval u = .agg (kcells (oldK x).1).toArray) (hv : a.eval v = .agg (kcells (nowK x).1).toArray) (hK : wpList Try.prog ops Q rest (a.put o.dst (qv (x, (0, 1)))) w) : wpList Try.prog ops Q (o :: rest) a w := by
  refine wpList_plain hg fun K' hK' => ?_
  have hrun := build_q x w
  have hc : a.eval (.const (.int .i64 1)) = .int .i64 1 := rfl
  unfold Oper.wp
  simp [execOp, hop, hu, hv, hc, hrun, Result.andThen]
  exact hK' _ _ hK
end

/-! a want put in its place -/
theorem ins_cons (x y : WS) (s t : St) (E : En) : ins x s ((y, t) :: E) = if lessW x.1 y.1 = true then (x, s) :: (y, t) :: E else (y, t) :: ins x s E := by rw [ins]
theorem ins_skip {x : WS} {s : St} : ∀ {P R : En}, (∀ p ∈ P, lessW x.1 p.1.1 = false) → ins x s (P ++ R) = P ++ ins x s R
  | [], R, _ => rfl
  | (y, t) :: P, R, h => by
    have h1 := h (y, t) (by simp)
    simp only at h1
    rw [List.cons_append, ins_cons, h1, if_neg (by decide), ins_skip (fun p hp => h p (by simp [hp]))]
    rfl
theorem ins_app {x : WS} {s : St} : ∀ {P R : En}, (∃ p ∈ P, lessW x.1 p.1.1 = true) → ins x s (P ++ R) = ins x s P ++ R
  | [], R, h => by obtain ⟨p, hp, _⟩ := h; cases hp
  | (y, t) :: P, R, h => by
    rw [List.cons_append, ins_cons, ins_cons]
    by_cases h1 : lessW x.1 y.1 = true
    · rw [if_pos h1, if_pos h1]; rfl
    · rw [if_neg h1, if_neg h1]
      rw [ins_app (P := P) (R := R) (by
        obtain ⟨p, hp, h2⟩ := h
        rcases List.mem_cons.1 hp with rfl | hp
        · exact absurd h2 h1
        · exact ⟨p, hp, h2⟩)]
      rfl
/-- how far the row is: put in or not. -/
def InsAt (x : WS) (E : En) (i : Nat) (dn : Bool) (L : En) : Prop :=
  (dn = false ∧ L = E.take i ∧ ∀ p ∈ E.take i, lessW x.1 p.1.1 = false) ∨ (dn = true ∧ L = ins x (0, 1) (E.take i) ∧ ∃ p ∈ E.take i, lessW x.1 p.1.1 = true)
section
variable {x : WS} {E L : En} {i : Nat} {dn : Bool}
theorem InsAt.zero : InsAt x E 0 false [] := .inl ⟨rfl, by simp, by simp⟩
theorem InsAt.here (h : InsAt x E i false L) (hi : i < E.length) (hl : lessW x.1 (E.getD i default).1.1 = true) : InsAt x E (i + 1) true ((L ++ [(x, (0, 1))]) ++ [E.getD i default]) := by
  rcases h with ⟨_, rfl, h⟩ | ⟨h, _⟩
  · refine .inr ⟨rfl, ?_, E.getD i default, by rw [take_snoc hi]; simp, hl⟩
    rw [take_snoc hi, ins_skip h]
    generalize E.getD i default = p at hl ⊢
    obtain ⟨y, t⟩ := p
    rw [ins_cons, if_pos hl]
    simp
  · cases h
theorem InsAt.past (h : InsAt x E i false L) (hi : i < E.length) (hl : lessW x.1 (E.getD i default).1.1 = false) : InsAt x E (i + 1) false (L ++ [E.getD i default]) := by
  rcases h with ⟨_, rfl, h⟩ | ⟨h, _⟩
  · refine .inl ⟨rfl, by rw [take_snoc hi], fun p hp => ?_⟩
    rw [take_snoc hi] at hp
    rcases List.mem_append.1 hp with hp | hp
    · exact h p hp
    · rw [List.mem_singleton.1 hp]; exact hl
  · cases h
theorem InsAt.more (h : InsAt x E i true L) (hi : i < E.length) : InsAt x E (i + 1) true (L ++ [E.getD i default]) := by
  rcases h with ⟨h, _⟩ | ⟨_, rfl, h⟩
  · cases h
  · refine .inr ⟨rfl, by rw [take_snoc hi, ins_app h], ?_⟩
    obtain ⟨p, hp, h2⟩ := h
    exact ⟨p, by rw [take_snoc hi]; simp [hp], h2⟩
theorem InsAt.last (h : InsAt x E E.length false L) : L ++ [(x, (0, 1))] = ins x (0, 1) E := by
  rcases h with ⟨_, rfl, h⟩ | ⟨h, _⟩
  · rw [List.take_length] at h ⊢
    have := ins_skip (s := (0, 1)) (R := []) h
    rw [List.append_nil] at this
    rw [this]; rfl
  · cases h
theorem InsAt.all (h : InsAt x E E.length true L) : L = ins x (0, 1) E := by
  rcases h with ⟨h, _⟩ | ⟨_, rfl, h⟩
  · cases h
  · rw [List.take_length]
theorem InsAt.length (h : InsAt x E i dn L) : L.length ≤ i + 1 := by
  rcases h with ⟨_, rfl, _⟩ | ⟨_, rfl, _⟩
  · rw [List.length_take]; omega
  · rw [ins_length, List.length_take]; omega
end
end Go.Proofs.Ythjgmnafbikihaa
