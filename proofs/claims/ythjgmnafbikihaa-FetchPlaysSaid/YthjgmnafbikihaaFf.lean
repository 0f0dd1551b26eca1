/-
  Fetch: wants as a map's keys.
-/
import Derived.Test.YthjgmnafbikihaaFe
import Derived.DeepKeys3
import Derived.Maps.Keyed
set_option linter.unusedVariables false
set_option linter.unusedSimpArgs false
namespace Go.Proofs.Ythjgmnafbikihaa
open Go.RowKit Go.Maps

theorem c5 : Try.prog.cellsOf 5 = 1 := by kernel_rfl
theorem c22 : Try.prog.cellsOf 22 = 1 := by kernel_rfl
theorem c24 : Try.prog.cellsOf 24 = 32 := by kernel_rfl
theorem c26 : Try.prog.cellsOf 26 = 33 := by kernel_rfl
theorem c35 : Try.prog.cellsOf 35 = 66 := by kernel_rfl
theorem one_of {cs : List Value} {k : Nat} (h : k < cs.length) : (cs.drop k).take 1 = [cs[k]] := by
  rw [List.drop_eq_getElem_cons h]; rfl

theorem lit_inv {D : Nat} {t : TypeId} {q : IntKind} {cs : List Value} {r : List Lit} (hu : Try.prog.underlying t = some (.int q)) (h : Try.prog.keyLits (D + 1) t cs = some r) : ∃ n, cs = [.int q n] ∧ (Lit.int q n).wf = true := by
  cases cs with
  | nil => simp [Program.keyLits, hu] at h
  | cons v l =>
    cases l with
    | cons _ _ => simp [Program.keyLits, hu] at h
    | nil =>
      cases v <;> simp [Program.keyLits, hu] at h
      obtain ⟨⟨rfl, hw⟩, _⟩ := h
      exact ⟨_, rfl, hw⟩
theorem lit_mk {D : Nat} {t : TypeId} {q : IntKind} {n : Int} (hu : Try.prog.underlying t = some (.int q)) (h : (Lit.int q n).wf = true) : Try.prog.keyLits (D + 1) t [.int q n] = some [.int q n] := by
  simp [Program.keyLits, hu, h]

/-- what reads as an array of bytes is one. -/
theorem h_inv {D : Nat} {cs : List Value} {r : List Lit} (h : Try.prog.keyLits (D + 2) 24 cs = some r) : ∃ zs, IsH zs ∧ cs = zs.map (Value.int .u8) := by
  unfold Program.keyLits at h
  simp only [Try.underlying24] at h
  split at h
  · rename_i hl
    rw [c24] at hl
    simp only [Option.map_eq_some_iff] at h
    obtain ⟨rs, hm, _⟩ := h
    have hrl := mapM_some_length hm
    rw [List.length_range] at hrl
    have hv : ∀ i (hi : i < cs.length), ∃ n, cs[i] = .int .u8 n ∧ (Lit.int .u8 n).wf = true := by
      intro i hi
      have h1 := mapM_some_get hm i i (List.getElem?_range (by omega))
      rw [c5, Nat.mul_one, one_of hi, List.getElem?_eq_getElem (by omega)] at h1
      obtain ⟨n, hn, hw⟩ := lit_inv Try.underlying5 h1
      exact ⟨n, by simpa using hn, hw⟩
    let g : Value → Int := fun v => match v with
      | .int _ n => n
      | _ => 0
    refine ⟨cs.map g, ⟨by simpa using hl, fun z hz => ?_⟩, ?_⟩
    · obtain ⟨v, hv', rfl⟩ := List.mem_map.1 hz
      obtain ⟨i, hi, rfl⟩ := List.mem_iff_getElem.1 hv'
      obtain ⟨n, hn, hw⟩ := hv i hi
      rw [hn]; exact hw
    · apply List.ext_getElem (by simp)
      intro i h1 h2
      obtain ⟨n, hn, hw⟩ := hv i h1
      simp only [List.getElem_map, hn]
      rfl
  · cases h
theorem mapM_all {α β : Type} {f : α → Option β} : ∀ l : List α, (∀ x ∈ l, ∃ y, f x = some y) → ∃ r, l.mapM f = some r
  | [], _ => ⟨[], rfl⟩
  | x :: l, h => by
    obtain ⟨y, hy⟩ := h x (by simp)
    obtain ⟨r, hr⟩ := mapM_all l (fun z hz => h z (by simp [hz]))
    exact ⟨y :: r, by rw [List.mapM_cons, hy, hr]; rfl⟩
theorem h_mk {D : Nat} {zs : List Int} (h : IsH zs) : ∃ r, Try.prog.keyLits (D + 2) 24 (zs.map (Value.int .u8)) = some r := by
  obtain ⟨rs, hr⟩ := mapM_all (f := fun i => Try.prog.keyLits (D + 1) 5 (((zs.map (Value.int .u8)).drop (i * 1)).take 1)) (List.range 32) (fun i hi => by
    have hi' : i < zs.length := by rw [h.1]; exact List.mem_range.1 hi
    rw [Nat.mul_one, one_of (by simpa using hi'), List.getElem_map]
    exact ⟨_, lit_mk Try.underlying5 (h.2 _ (List.getElem_mem hi'))⟩)
  unfold Program.keyLits
  simp only [Try.underlying24]
  rw [if_pos (by rw [c24]; simpa using h.1)]
  simp only [c5, hr]
  exact ⟨_, rfl⟩

theorem k_inv {D : Nat} {cs : List Value} {r : List Lit} (h : Try.prog.keyLits (D + 3) 26 cs = some r) : ∃ k : K, IsK k ∧ cs = kcells k := by
  unfold Program.keyLits at h
  simp only [Try.underlying26] at h
  split at h
  · rename_i hl
    rw [c26] at hl
    simp only [Option.map_eq_some_iff] at h
    obtain ⟨rs, hm, _⟩ := h
    have hrl := mapM_some_length hm
    have h0 := mapM_some_get hm 0 _ rfl
    have h1 := mapM_some_get hm 1 _ rfl
    have hrl : rs.length = 2 := hrl
    rw [List.getElem?_eq_getElem (by omega)] at h0 h1
    have h0 : Try.prog.keyLits (D + 2) 22 ((cs.drop 0).take (Try.prog.cellsOf 22)) = some rs[0] := h0
    have h1 : Try.prog.keyLits (D + 2) 24 ((cs.drop 1).take (Try.prog.cellsOf 24)) = some rs[1] := h1
    rw [c22] at h0
    rw [c24] at h1
    obtain ⟨n, hn, hw⟩ := lit_inv Try.underlying22 h0
    obtain ⟨zs, hz, he⟩ := h_inv h1
    refine ⟨(n, zs), ⟨hw, hz⟩, ?_⟩
    have e : cs = (cs.drop 0).take 1 ++ (cs.drop 1).take 32 := by
      rw [List.drop_zero, List.take_of_length_le (l := cs.drop 1) (by simp; omega), List.take_append_drop]
    rw [e, hn, he]
    rfl
  · cases h
theorem k_mk {D : Nat} {k : K} (h : IsK k) : ∃ r, Try.prog.keyLits (D + 3) 26 (kcells k) = some r := by
  have hl := kcells_length h
  unfold Program.keyLits
  simp only [Try.underlying26]
  rw [if_pos (by rw [c26]; exact ⟨hl, by simp⟩)]
  have e0 : ((kcells k).drop 0).take (Try.prog.cellsOf 22) = [.int .u64 k.1] := by rw [c22]; rfl
  have e1 : ((kcells k).drop 1).take (Try.prog.cellsOf 24) = k.2.map (Value.int .u8) := by
    rw [c24]
    show (k.2.map (Value.int .u8)).take 32 = _
    exact List.take_of_length_le (by simp [h.2.1])
  obtain ⟨r, hr⟩ := h_mk (D := D) h.2
  have e2 : Try.prog.keyLits (D + 2) 22 [.int .u64 k.1] = some [.int .u64 k.1] := lit_mk Try.underlying22 h.1
  simp only [List.mapM_cons, List.mapM_nil, e0, e1, e2, hr]
  exact ⟨_, rfl⟩
theorem w_inv {D : Nat} {cs : List Value} {r : List Lit} (h : Try.prog.keyLits (D + 4) 35 cs = some r) : ∃ x : WS, cs = encS x := by
  unfold Program.keyLits at h
  simp only [Try.underlying35] at h
  split at h
  · rename_i hl
    rw [c35] at hl
    simp only [Option.map_eq_some_iff] at h
    obtain ⟨rs, hm, _⟩ := h
    have hrl := mapM_some_length hm
    have h0 := mapM_some_get hm 0 _ rfl
    have h1 := mapM_some_get hm 1 _ rfl
    have hrl : rs.length = 2 := hrl
    rw [List.getElem?_eq_getElem (by omega)] at h0 h1
    have h0 : Try.prog.keyLits (D + 3) 26 ((cs.drop 0).take (Try.prog.cellsOf 26)) = some rs[0] := h0
    have h1 : Try.prog.keyLits (D + 3) 26 ((cs.drop 33).take (Try.prog.cellsOf 26)) = some rs[1] := h1
    rw [c26] at h0 h1
    obtain ⟨a, ha, ea⟩ := k_inv h0
    obtain ⟨b, hb, eb⟩ := k_inv h1
    refine ⟨⟨(a, b), ha, hb⟩, ?_⟩
    have e : cs = (cs.drop 0).take 33 ++ (cs.drop 33).take 33 := by
      rw [List.drop_zero, List.take_of_length_le (l := cs.drop 33) (by simp; omega), List.take_append_drop]
    rw [e, ea, eb]
    rfl
  · cases h
theorem w_mk {D : Nat} (x : WS) : ∃ r, Try.prog.keyLits (D + 4) 35 (encS x) = some r := by
  have hl := wcells_length x.2
  have k1 := kcells_length x.2.1
  have k2 := kcells_length x.2.2
  unfold Program.keyLits
  simp only [Try.underlying35]
  rw [if_pos (by rw [c35]; exact ⟨hl, by simp⟩)]
  have e0 : ((encS x).drop 0).take (Try.prog.cellsOf 26) = kcells x.1.1 := by
    rw [c26, List.drop_zero, ← k1]; exact List.take_left
  have e1 : ((encS x).drop 33).take (Try.prog.cellsOf 26) = kcells x.1.2 := by
    rw [c26]
    show ((kcells x.1.1 ++ kcells x.1.2).drop 33).take 33 = _
    rw [← k1, List.drop_left, k1]
    exact List.take_of_length_le (by omega)
  obtain ⟨r, hr⟩ := k_mk (D := D) x.2.1
  obtain ⟨s, hs⟩ := k_mk (D := D) x.2.2
  simp only [List.mapM_cons, List.mapM_nil, e0, e1, hr, hs]
  exact ⟨_, rfl⟩

theorem law35 : Keyed Try.prog 35 := Keyed.of_law (deep_law (m := 4) (by omega) (by kernel_rfl) (by kernel_rfl) (by kernel_rfl))
theorem types4 : ∃ m, Try.prog.types.size + 1 = m + 4 := ⟨Try.prog.types.size + 1 - 4, by kernel_rfl⟩
theorem keyT : Try.prog.keyType 35 = true := by kernel_rfl
def wv (x : WS) : Value := .agg (encS x).toArray
theorem wv_inj {x y : WS} (h : wv x = wv y) : x = y := by
  unfold wv at h
  injection h with h
  have h2 : encS x = encS y := by simpa using congrArg Array.toList h
  have k1 := kcells_length x.2.1
  have k2 := kcells_length y.2.1
  have h3 : kcells x.1.1 ++ kcells x.1.2 = kcells y.1.1 ++ kcells y.1.2 := h2
  obtain ⟨ea, eb⟩ := List.append_inj h3 (by omega)
  have kk : ∀ a b : K, kcells a = kcells b → a = b := by
    intro a b e
    injection e with e1 e2
    injection e1 with _ e1
    exact Prod.ext e1 ((List.map_inj_right (fun a b e => by injection e)).1 e2)
  exact Subtype.ext (Prod.ext (kk _ _ ea) (kk _ _ eb))
theorem keyOf_wv (x : WS) : ∃ kl, keyOf Try.prog 35 (wv x) = some kl := by
  obtain ⟨m, hm⟩ := types4
  obtain ⟨r, hr⟩ := w_mk (D := m) x
  unfold keyOf wv
  simp only [Try.underlying35]
  rw [if_pos (by simp [keyT, Value.formed, Try.underlying35, c35, encS, wcells_length x.2])]
  rw [hm]
  simp only [Value.cells]
  rw [hr]
  exact ⟨_, rfl⟩
theorem keyOf_inv {v : Value} {kl : Lit} (h : keyOf Try.prog 35 v = some kl) : ∃ x : WS, v = wv x := by
  obtain ⟨m, hm⟩ := types4
  unfold keyOf at h
  simp only [Try.underlying35] at h
  split at h
  · rename_i hf
    rw [hm] at h
    simp only [Option.map_eq_some_iff] at h
    obtain ⟨r, hr, _⟩ := h
    obtain ⟨x, hx⟩ := w_inv hr
    refine ⟨x, ?_⟩
    have hl : v.cells.toList.length = 66 := by rw [hx]; exact wcells_length x.2
    cases v
    case agg cs =>
      unfold wv
      rw [← hx]
      simp [Value.cells]
    all_goals simp [Value.cells] at hl
  · cases h
end Go.Proofs.Ythjgmnafbikihaa
