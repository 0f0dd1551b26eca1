/-
  Fetch, the document's answer: its wants with their states, row by row; which of two is ahead.
-/
import Derived.Test.YthjgmnafbikihaaRb
set_option linter.unusedVariables false
set_option linter.unusedSimpArgs false
namespace Go.Proofs.Ythjgmnafbikihaa
open Go.RowKit Go.Maps Go.Sort

/-! keys alone -/
theorem law26 : Keyed Try.prog 26 := Keyed.of_law (deep_law (m := 4) (by omega) (by kernel_rfl) (by kernel_rfl) (by kernel_rfl))
theorem keyT26 : Try.prog.keyType 26 = true := by kernel_rfl
def kv (x : KV) : Value := .agg (kcells x.1).toArray
theorem kv_inj {x y : KV} (h : kv x = kv y) : x = y := by
  unfold kv at h
  injection h with h
  have h2 : kcells x.1 = kcells y.1 := by simpa using congrArg Array.toList h
  injection h2 with e1 e2
  injection e1 with _ e1
  exact Subtype.ext (Prod.ext e1 ((List.map_inj_right (fun a b e => by injection e)).1 e2))
theorem keyOf_kv (x : KV) : ∃ kl, keyOf Try.prog 26 (kv x) = some kl := by
  obtain ⟨m, hm⟩ := types4
  obtain ⟨r, hr⟩ := k_mk (D := m + 1) x.2
  unfold keyOf kv
  simp only [Try.underlying26]
  rw [if_pos (by simp [keyT26, Value.formed, Try.underlying26, c26, kcells_length x.2])]
  rw [hm]
  simp only [Value.cells]
  rw [hr]
  exact ⟨_, rfl⟩
theorem same_kv (x y : KV) (w : World) : (Op.equalIn 10000 26 (kv x) (kv y)).run Try.prog w = .ok (decide (x = y)) w := by
  obtain ⟨lx, hx⟩ := keyOf_kv x
  obtain ⟨ly, hy⟩ := keyOf_kv y
  obtain ⟨r, hr, hiff⟩ := run_equal_deep (P := Try.prog) w (m := 4) (by omega) (k := 26) (by kernel_rfl) (by rw [Try.underlying26]) hx hy
  have e : decide (x = y) = r := by
    by_cases h : x = y
    · have hl : lx = ly := by
        rw [h, hy] at hx
        exact (Option.some.inj hx).symm
      have h1 : r = true := hiff.2 hl
      rw [h1, decide_eq_true h]
    · have : r = false := by
        cases r with
        | false => rfl
        | true => exact absurd (kv_inj (law26.inj (by rw [hx, hiff.1 rfl]) hy)) h
      rw [this, decide_eq_false h]
  rw [e]
  have heq : Op.equal 26 (kv x) (kv y) = Op.equalIn 10000 26 (kv x) (kv y) := by simp only [Op.equal, Op.maxDepth]
  rw [heq] at hr
  exact hr
theorem guard26 : Try.prog.eqGuardType Try.prog.depth 26 = false := by kernel_rfl
theorem eql_kv (x y : KV) (w : World) : (binOp .eql 26 (kv x) (kv y)).run Try.prog w = .ok (.bool (decide (x = y))) w := by
  have h := same_kv x y w
  unfold kv at h ⊢
  rw [run_eql_struct, h]
  rfl
theorem neq_kv (x y : KV) (w : World) : (binOp .neq 26 (kv x) (kv y)).run Try.prog w = .ok (.bool (!decide (x = y))) w := by
  have h := same_kv x y w
  unfold kv at h ⊢
  rw [run_neq_struct, h]
  rfl
theorem exec_eqk {o : Oper} {a : Act} {u v : Operand} {x y : KV} {cs ds : Array Value} (ho : o.op = .binOp .eql 26 u v 26) (hu : a.eval u = .agg cs) (hv : a.eval v = .agg ds) (hx : kv x = .agg cs) (hy : kv y = .agg ds) (q : Bool) (hq : decide (x = y) = q) (w : World) :
    (execOp a.eval o).run Try.prog w = .ok (.value (.bool q)) w := by
  have h := eql_kv x y w
  rw [hx, hy, hq] at h
  unfold execOp
  simp only [ho, hu, hv, Sem.run_bind, run_eqGuard_agg _ _ _ _ _ _ _ guard26, Result.andThen_ok, h]
  rfl
theorem exec_nek {o : Oper} {a : Act} {u v : Operand} {x y : KV} {cs ds : Array Value} (ho : o.op = .binOp .neq 26 u v 26) (hu : a.eval u = .agg cs) (hv : a.eval v = .agg ds) (hx : kv x = .agg cs) (hy : kv y = .agg ds) (q : Bool) (hq : (!decide (x = y)) = q) (w : World) :
    (execOp a.eval o).run Try.prog w = .ok (.value (.bool q)) w := by
  have h := neq_kv x y w
  rw [hx, hy, hq] at h
  unfold execOp
  simp only [ho, hu, hv, Sem.run_bind, run_eqGuard_agg _ _ _ _ _ _ _ guard26, Result.andThen_ok, h]
  rfl
section
variable {ops : Array Oper} {rest : List Oper} {o : Oper} {a : Act} {Q : Exit → Act → World → Prop} {w : World}
theorem wpList_nek (u v : Operand) (x y : KV) (cs ds : Array Value) (hg : o.guard = none) (ho : o.op = .binOp .neq 26 u v 26) (hu : a.eval u = .agg cs) (hv : a.eval v = .agg ds) (hx : kv x = .agg cs) (hy : kv y = .agg ds) (q : Bool) (hq : (!decide (x = y)) = q)
    (hK : wpList Try.prog ops Q rest (a.put o.dst (.bool q)) w) : wpList Try.prog ops Q (o :: rest) a w := by
  refine wpList_plain hg fun K' hK' => ?_
  have hrun := exec_nek ho hu hv hx hy q hq w
  unfold Oper.wp
  rw [hrun]
  exact hK' _ _ hK
end

/-! the two keys of a want -/
def oldK (x : WS) : KV := ⟨x.1.1, x.2.1⟩
def nowK (x : WS) : KV := ⟨x.1.2, x.2.2⟩
theorem ws_ext {x y : WS} (h1 : oldK x = oldK y) (h2 : nowK x = nowK y) : x = y :=
  Subtype.ext (Prod.ext (congrArg Subtype.val h1) (congrArg Subtype.val h2))
theorem ws_iff (x y : WS) : x = y ↔ oldK x = oldK y ∧ nowK x = nowK y := ⟨fun h => by rw [h]; exact ⟨rfl, rfl⟩, fun h => ws_ext h.1 h.2⟩
theorem less_old {x y : WS} (h : oldK x ≠ oldK y) : lessW x.1 y.1 = lessK x.1.1 y.1.1 := by
  have h' : x.1.1 ≠ y.1.1 := fun e => h (Subtype.ext e)
  rw [Bool.eq_iff_iff, lessW_iff]
  simp [h']
theorem less_now {x y : WS} (h : oldK x = oldK y) : lessW x.1 y.1 = lessK x.1.2 y.1.2 := by
  have h' : x.1.1 = y.1.1 := congrArg Subtype.val h
  rw [Bool.eq_iff_iff, lessW_iff]
  simp [h', lessK_irr]

/-! rows -/
def encQ (p : WS × St) : List Value := encS p.1 ++ [.int .i64 p.2.1, .int .i64 p.2.2]
def qv (p : WS × St) : Value := .agg (encQ p).toArray
def qrow (E : En) : List Value := E.flatMap encQ
theorem encQ_length (p : WS × St) : (encQ p).length = 68 := by
  have h1 : (encS p.1).length = 66 := wcells_length p.1.2
  simp [encQ, h1]
theorem encQ_ones (p : WS × St) : ∀ v ∈ encQ p, v.oneCell' = true := by
  intro v hv
  rcases List.mem_append.1 hv with h | h
  · exact wcells_ones _ v h
  · simp only [List.mem_cons, List.not_mem_nil, or_false] at h
    rcases h with rfl | rfl <;> rfl
theorem qrow_length (E : En) : (qrow E).length = E.length * 68 := by
  induction E with
  | nil => rfl
  | cons x E ih =>
    have h1 := encQ_length x
    simp only [qrow, List.flatMap_cons, List.length_append, List.length_cons] at ih ⊢
    rw [ih, h1]
    omega
theorem qrow_snoc (E : En) (p : WS × St) : qrow (E ++ [p]) = qrow E ++ encQ p := by simp [qrow]
theorem qrow_get {E : En} {i j : Nat} (hi : i < E.length) (hj : j < 68) : (qrow E)[i * 68 + j]? = (encQ (E.getD i default))[j]? := by
  induction E generalizing i with
  | nil => simp at hi
  | cons x E ih =>
    have h1 : (encQ x).length = 68 := encQ_length x
    cases i with
    | zero =>
      simp only [qrow, List.flatMap_cons, Nat.zero_mul, Nat.zero_add, List.getD_cons_zero]
      rw [List.getElem?_append_left (by omega)]
    | succ i =>
      have := ih (i := i) (by simpa using hi)
      simp only [qrow, List.flatMap_cons, List.getD_cons_succ] at this ⊢
      rw [List.getElem?_append_right (by omega), ← this]
      congr 1
      omega
theorem qrow_at {w : World} {base n c i : Nat} {A : Option Addr} {E : En} (h : w.ownsRow base 78 68 (.slice A n c) n (qrow E)) (hn : E.length = n) (hi : i < n) :
    ∃ kb, A = some ⟨kb, 0, none⟩ ∧ kb < w.heap.size ∧ w.rangeAt kb (i * 68) (encQ (E.getD i default)) := by
  rcases h.2 with ⟨hv, h0⟩ | ⟨kb, cap, cur, hv, _, hb, r1, r2, r3, r4⟩
  · omega
  · injection hv with hA
    refine ⟨kb, hA, (Array.getElem?_eq_some_iff.1 hb).1, fun j v hv => ?_⟩
    have hj : j < 68 := by
      have := (List.getElem?_eq_some_iff.1 hv).1
      rw [encQ_length] at this
      exact this
    have e1 := qrow_get (E := E) (i := i) (show i < E.length by omega) hj
    rw [hv, ← r4, List.getElem?_take_of_lt (show i * 68 + j < n * 68 by omega), Array.getElem?_toList] at e1
    simp [World.cell?, hb, e1]
theorem q_parts {w : World} {b o : Nat} {p : WS × St} (h : w.rangeAt b o (encQ p)) :
    w.rangeAt b o (kcells (oldK p.1).1) ∧ w.rangeAt b (o + 33) (kcells (nowK p.1).1) ∧ w.cell? ⟨b, o + 66, none⟩ = some (.int .i64 p.2.1) ∧ w.cell? ⟨b, o + 67, none⟩ = some (.int .i64 p.2.2) := by
  have k1 := kcells_length p.1.2.1
  have k2 := kcells_length p.1.2.2
  have e : encQ p = (kcells p.1.1.1 ++ kcells p.1.1.2) ++ [.int .i64 p.2.1, .int .i64 p.2.2] := rfl
  rw [e] at h
  refine ⟨fun j v hv => ?_, fun j v hv => ?_, ?_, ?_⟩
  · have hj := (List.getElem?_eq_some_iff.1 hv).1
    have hj : j < (kcells p.1.1.1).length := hj
    refine h j v ?_
    rw [List.getElem?_append_left (by simp; omega), List.getElem?_append_left hj]; exact hv
  · have hj := (List.getElem?_eq_some_iff.1 hv).1
    have hj : j < (kcells p.1.1.2).length := hj
    rw [Nat.add_assoc]
    refine h (33 + j) v ?_
    rw [List.getElem?_append_left (by simp; omega), List.getElem?_append_right (by omega), k1, Nat.add_sub_cancel_left]; exact hv
  · exact h 66 _ (by rw [List.getElem?_append_right (by simp; omega)]; simp [k1, k2])
  · exact h 67 _ (by rw [List.getElem?_append_right (by simp; omega)]; simp [k1, k2])
theorem size26_ (x : KV) : (Try.prog.info? 26).map (·.size) = some (kcells x.1).length := by
  have h : (Try.prog.info? 26).map (·.size) = some 33 := by kernel_rfl
  rw [h, kcells_length x.2]
theorem size78_ (p : WS × St) : (Try.prog.info? 78).map (·.size) = some (encQ p).length := by
  have h : (Try.prog.info? 78).map (·.size) = some 68 := by kernel_rfl
  rw [h, encQ_length]

set_option maxRecDepth 100000 in
theorem qless_any (x y : WS × St) (w : World) : Calls Try.prog 27 #[qv x, qv y] w fun e w' => e = .returned (.bool (lessW x.1.1 y.1.1)) ∧ Lay w w' := by
  obtain ⟨al, hal⟩ : ∃ l, encQ x = l := ⟨_, rfl⟩
  obtain ⟨bl, hbl⟩ : ∃ l, encQ y = l := ⟨_, rfl⟩
  have hva : qv x = .agg al.toArray := by rw [← hal]; rfl
  have hvb : qv y = .agg bl.toArray := by rw [← hbl]; rfl
  rw [hva, hvb]
  have hba := ((Blk.new w 78 al.toArray).alloc (.cells bl.toArray 78)).range
  have hbb := (Blk.new (w.alloc (.cells al.toArray 78)) 78 bl.toArray).range
  rw [show (w.alloc (.cells al.toArray 78)).heap.size = w.heap.size + 1 by simp] at hbb
  have hl := ((Lay.refl w).alloc (.cells al.toArray 78)).alloc (.cells bl.toArray 78)
  rw [show al.toArray.toList = encQ x by simp [hal]] at hba
  rw [show bl.toArray.toList = encQ y by simp [hbl]] at hbb
  obtain ⟨a1, a2, _, _⟩ := q_parts hba
  obtain ⟨b1, b2, _, _⟩ := q_parts hbb
  obtain ⟨oa, hoa⟩ : ∃ l, kcells (oldK x.1).1 = l := ⟨_, rfl⟩
  obtain ⟨na, hna⟩ : ∃ l, kcells (nowK x.1).1 = l := ⟨_, rfl⟩
  obtain ⟨ob, hob⟩ : ∃ l, kcells (oldK y.1).1 = l := ⟨_, rfl⟩
  obtain ⟨nb, hnb⟩ : ∃ l, kcells (nowK y.1).1 = l := ⟨_, rfl⟩
  have s1 := size26_ (oldK x.1)
  have s2 := size26_ (nowK x.1)
  have s3 := size26_ (oldK y.1)
  have s4 := size26_ (nowK y.1)
  have kx : kv (oldK x.1) = .agg oa.toArray := by rw [← hoa]; rfl
  have ky : kv (oldK y.1) = .agg ob.toArray := by rw [← hob]; rfl
  have l1 := fun w => Lib.hid (rless_any (oldK x.1).1 (oldK y.1).1 (oldK x.1).2 (oldK y.1).2 w)
  have l2 := fun w => Lib.hid (rless_any (nowK x.1).1 (nowK y.1).1 (nowK x.1).2 (nowK y.1).2 w)
  rw [hoa] at a1 s1
  rw [hna] at a2 s2
  rw [hob] at b1 s3
  rw [hnb] at b2 s4
  simp only [hoa, hob] at l1
  simp only [hna, hnb] at l2
  have hu26 := Try.underlying26
  obtain ⟨W, hW⟩ : ∃ W, W = (w.alloc (.cells al.toArray 78)).alloc (.cells bl.toArray 78) := ⟨_, rfl⟩
  obtain ⟨ga, hga⟩ : ∃ ga, ga = w.heap.size := ⟨_, rfl⟩
  rw [← hW] at a1 a2 b1 b2 hl
  rw [← hga] at a1 a2 b1 b2
  rw [Nat.zero_add] at a2 b2
  have A1 := Lib.hid a1
  have A2 := Lib.hid a2
  have B1 := Lib.hid b1
  have B2 := Lib.hid b2
  have S1 := Lib.hid s1
  have S2 := Lib.hid s2
  have S3 := Lib.hid s3
  have S4 := Lib.hid s4
  have KX := Lib.hid kx
  have KY := Lib.hid ky
  have HL := Lib.hid hl
  have HWq := Lib.hid hW
  have HGq := Lib.hid hga
  have e1 := @less_old x.1 y.1
  have e2 := @less_now x.1 y.1
  have E1 := Lib.hid e1
  have E2 := Lib.hid e2
  clear a1 a2 b1 b2 hl hva hvb hal hbl hba hbb hoa hna hob hnb hW hga s1 s2 s3 s4 kx ky hu26 e1 e2
  by_cases he : oldK x.1 = oldK y.1
  · have hq : (!decide (oldK x.1 = oldK y.1)) = false := by simp [he]
    have HQ := Lib.hid hq
    rw [E2.out he]
    clear hq he E1 E2
    go_enter Try.func27, Try.ntmps27
    go_wp2_with (first
      | (refine wpList_load_range 26 (.tmp 5) w.heap.size 0 oa.toArray _ rfl rfl rfl Try.underlying26 rfl (by simpa using S1.out) (by rw [← HWq.out, ← HGq.out]; simpa using A1.out) ?_)
      | (refine wpList_load_range 26 (.tmp 7) (w.heap.size + 1) 0 ob.toArray _ rfl rfl rfl Try.underlying26 rfl (by simpa using S3.out) (by rw [← HWq.out, ← HGq.out]; simpa using B1.out) ?_)
      | (refine wpList_nek (.tmp 6) (.tmp 8) _ _ _ _ rfl rfl rfl rfl KX.out KY.out false HQ.out ?_)
      | (refine wpList_load_range 26 (.tmp 15) w.heap.size 33 na.toArray _ rfl rfl rfl Try.underlying26 rfl (by simpa using S2.out) (by rw [← HWq.out, ← HGq.out]; simpa using A2.out) ?_)
      | (refine wpList_load_range 26 (.tmp 17) (w.heap.size + 1) 33 nb.toArray _ rfl rfl rfl Try.underlying26 rfl (by simpa using S4.out) (by rw [← HWq.out, ← HGq.out]; simpa using B2.out) ?_))
    rw [← HWq.out]
    refine (l2 W).out.mono ?_
    rintro e w6 ⟨rfl, hB6⟩
    have HB := Lib.hid (HL.out.trans hB6)
    clear hB6 l1 l2
    go_wp2_with fail
    go_ret
    exact ⟨rfl, HB.out⟩
  · have hq : (!decide (oldK x.1 = oldK y.1)) = true := by simp [he]
    have HQ := Lib.hid hq
    rw [E1.out he]
    clear hq he E1 E2
    go_enter Try.func27, Try.ntmps27
    go_wp2_with (first
      | (refine wpList_load_range 26 (.tmp 5) w.heap.size 0 oa.toArray _ rfl rfl rfl Try.underlying26 rfl (by simpa using S1.out) (by rw [← HWq.out, ← HGq.out]; simpa using A1.out) ?_)
      | (refine wpList_load_range 26 (.tmp 7) (w.heap.size + 1) 0 ob.toArray _ rfl rfl rfl Try.underlying26 rfl (by simpa using S3.out) (by rw [← HWq.out, ← HGq.out]; simpa using B1.out) ?_)
      | (refine wpList_nek (.tmp 6) (.tmp 8) _ _ _ _ rfl rfl rfl rfl KX.out KY.out true HQ.out ?_)
      | (refine wpList_load_range 26 (.tmp 10) w.heap.size 0 oa.toArray _ rfl rfl rfl Try.underlying26 rfl (by simpa using S1.out) (by rw [← HWq.out, ← HGq.out]; simpa using A1.out) ?_)
      | (refine wpList_load_range 26 (.tmp 12) (w.heap.size + 1) 0 ob.toArray _ rfl rfl rfl Try.underlying26 rfl (by simpa using S3.out) (by rw [← HWq.out, ← HGq.out]; simpa using B1.out) ?_))
    rw [← HWq.out]
    refine (l1 W).out.mono ?_
    rintro e w6 ⟨rfl, hB6⟩
    have HB := Lib.hid (HL.out.trans hB6)
    clear hB6 l1 l2
    go_wp2_with fail
    go_ret
    exact ⟨rfl, HB.out⟩
end Go.Proofs.Ythjgmnafbikihaa
