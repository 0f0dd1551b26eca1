/-
  Fetch: keys, wants and acts that came in.
-/
import Derived.Test.YthjgmnafbikihaaFs
import Derived.Deep.Slices
import Derived.Deep.Fields
import Derived.ChangeSame
import Derived.OpenShut
set_option linter.unusedVariables false
set_option linter.unusedSimpArgs false
namespace Go.Proofs.Ythjgmnafbikihaa
open Go.RowKit Go.Sort Go.Maps Go.Deep

abbrev KV := { k : K // IsK k }
instance : Inhabited KV := ⟨⟨zeroK, zeroK_ok⟩⟩
theorem cells22 : Try.prog.cellsOf 22 = 1 := by kernel_rfl
theorem cells24 : Try.prog.cellsOf 24 = 32 := by kernel_rfl
theorem cells26 : Try.prog.cellsOf 26 = 33 := by kernel_rfl
theorem cells35 : Try.prog.cellsOf 35 = 66 := by kernel_rfl
theorem cells52 : Try.prog.cellsOf 52 = 67 := by kernel_rfl
theorem cellsI : Try.prog.cellsOf 3 = 1 := by kernel_rfl
theorem cellsB : Try.prog.cellsOf 5 = 1 := by kernel_rfl

theorem parts_of {cs : List Value} {m n : Nat} (h : cs.length = m + n) : cs = (cs.drop 0).take m ++ (cs.drop m).take n := by
  rw [List.drop_zero]
  have : (cs.drop m).take n = cs.drop m := List.take_of_length_le (by simp; omega)
  rw [this, List.take_append_drop]

section
variable {H : Type} {enc : TypeId × Value → H} {w : World} {base : Nat} {held : Bool} {spare : Nat → Bool}
theorem open_h {fuel : Nat} {cs : List Value} {x : DataW H × List MemPlace} (h : DataW.trod enc Try.prog w base spare held fuel 24 cs = some x) : ∃ id, IsH id ∧ cs = id.map (Value.int .u8) := by
  obtain ⟨xs, m, _, _, hl, hxl, hg⟩ := DataW.trod_array Try.underlying24 h
  rw [cells24] at hl
  have hv : ∀ i (hi : i < cs.length), ∃ n, cs[i] = .int .u8 n ∧ (Lit.int .u8 n).wf = true := by
    intro i hi
    have h1 := hg i (by omega)
    rw [cellsB, Nat.mul_one, one_of hi, List.getElem?_eq_getElem (by omega)] at h1
    obtain ⟨n, hn, _, hw⟩ := DataW.trod_int Try.underlying5 h1
    exact ⟨n, by simpa using hn, hw⟩
  let g : Value → Int := fun v => match v with
    | .int _ n => n
    | _ => 0
  refine ⟨cs.map g, ⟨by simpa using hl, fun z hz => ?_⟩, ?_⟩
  · obtain ⟨v, hv', rfl⟩ := List.mem_map.1 hz
    obtain ⟨i, hi, rfl⟩ := List.mem_iff_getElem.1 hv'
    obtain ⟨n, hn, hw⟩ := hv i hi
    rw [hn]; exact hw
  · apply List.ext_getElem (by simp)
    intro i h1 h2
    obtain ⟨n, hn, hw⟩ := hv i h1
    simp only [List.getElem_map, hn]
    rfl
theorem el26 {fuel : Nat} {cs : List Value} {x : DataW H × List MemPlace} (hl : cs.length = 33) (h : DataW.trod enc Try.prog w base spare held fuel 26 cs = some x) : ∃ k : KV, cs = kcells k.1 := by
  obtain ⟨ys, n', _, _, _, hyl, hf⟩ := DataW.trod_struct Try.underlying26 h
  have hyl : ys.length = 2 := hyl
  have f0 : DataW.trod enc Try.prog w base spare held n' 22 ((cs.drop 0).take (Try.prog.cellsOf 22)) = ys[0]? := hf 0 _ rfl
  have f1 : DataW.trod enc Try.prog w base spare held n' 24 ((cs.drop 1).take (Try.prog.cellsOf 24)) = ys[1]? := hf 1 _ rfl
  rw [cells22, one_of (by omega), List.getElem?_eq_getElem (by omega)] at f0
  rw [cells24, List.getElem?_eq_getElem (by omega)] at f1
  obtain ⟨sz, hsz, _, ws⟩ := DataW.trod_int Try.underlying22 f0
  obtain ⟨id, hid, he⟩ := open_h f1
  refine ⟨⟨(sz, id), ws, hid⟩, ?_⟩
  have e := parts_of (m := 1) (n := 32) (show cs.length = 1 + 32 by omega)
  rw [one_of (by omega), he] at e
  rw [e]
  have e0 : cs[0]'(by omega) = .int .u64 sz := by simpa using hsz
  rw [e0]
  rfl
theorem el35 {fuel : Nat} {cs : List Value} {x : DataW H × List MemPlace} (hl : cs.length = 66) (h : DataW.trod enc Try.prog w base spare held fuel 35 cs = some x) : ∃ k : WS, cs = encS k := by
  obtain ⟨ys, n', _, _, _, hyl, hf⟩ := DataW.trod_struct Try.underlying35 h
  have hyl : ys.length = 2 := hyl
  have f0 : DataW.trod enc Try.prog w base spare held n' 26 ((cs.drop 0).take (Try.prog.cellsOf 26)) = ys[0]? := hf 0 _ rfl
  have f1 : DataW.trod enc Try.prog w base spare held n' 26 ((cs.drop 33).take (Try.prog.cellsOf 26)) = ys[1]? := hf 1 _ rfl
  rw [cells26, List.getElem?_eq_getElem (by omega)] at f0
  rw [cells26, List.getElem?_eq_getElem (by omega)] at f1
  obtain ⟨k0, e0⟩ := el26 (by simp; omega) f0
  obtain ⟨k1, e1⟩ := el26 (by simp; omega) f1
  refine ⟨⟨(k0.1, k1.1), k0.2, k1.2⟩, ?_⟩
  have e := parts_of (m := 33) (n := 33) (show cs.length = 33 + 33 by omega)
  rw [e0, e1] at e
  rw [e]
  rfl
theorem el52 {fuel : Nat} {cs : List Value} {x : DataW H × List MemPlace} (hl : cs.length = 67) (h : DataW.trod enc Try.prog w base spare held fuel 52 cs = some x) : ∃ (kd : Int) (k : WS), (Lit.int .i64 kd).wf = true ∧ cs = .int .i64 kd :: encS k := by
  obtain ⟨ys, n', _, _, _, hyl, hf⟩ := DataW.trod_struct Try.underlying52 h
  have hyl : ys.length = 2 := hyl
  have f0 : DataW.trod enc Try.prog w base spare held n' 3 ((cs.drop 0).take (Try.prog.cellsOf 3)) = ys[0]? := hf 0 _ rfl
  have f1 : DataW.trod enc Try.prog w base spare held n' 35 ((cs.drop 1).take (Try.prog.cellsOf 35)) = ys[1]? := hf 1 _ rfl
  rw [cellsI, one_of (by omega), List.getElem?_eq_getElem (by omega)] at f0
  rw [cells35, List.getElem?_eq_getElem (by omega)] at f1
  obtain ⟨kd, hkd, _, wk⟩ := DataW.trod_int Try.underlying3 f0
  obtain ⟨k1, e1⟩ := el35 (by simp; omega) f1
  refine ⟨kd, k1, wk, ?_⟩
  have e := parts_of (m := 1) (n := 66) (show cs.length = 1 + 66 by omega)
  rw [one_of (by omega), e1] at e
  rw [e]
  have e0 : cs[0]'(by omega) = .int .i64 kd := by simpa using hkd
  rw [e0]
  rfl
theorem open_kv {fuel : Nat} {cs : Array Value} {x : DataW H × List MemPlace} (hl : cs.size = Try.prog.cellsOf 26) (h : DataW.trod enc Try.prog w base spare held fuel 26 (Value.agg cs).cells.toList = some x) : ∃ k : KV, cs = (kcells k.1).toArray := by
  obtain ⟨k, hk⟩ := el26 (by rw [cells26] at hl; simpa [Value.cells] using hl) h
  exact ⟨k, by simpa [Value.cells] using congrArg List.toArray hk⟩

/-- a slice that came in, of elements of m cells, each as 'of' says. -/
def IsOf (m : Nat) (of : List Value → Prop) (w : World) (a : Option Addr) (len cap : Nat) : Prop :=
  len ≤ cap ∧ cap ≤ maxLen ∧ (len = 0 ∨ ∃ b off, a = some ⟨b, off, none⟩ ∧ b < w.heap.size ∧ ∀ i, i < len → ∃ cs, cs.length = m ∧ of cs ∧ w.rangeAt b (off + i * m) cs)
theorem open_of {t e : TypeId} {m : Nat} {of : List Value → Prop} (ht : Try.prog.underlying t = some (.slice e)) (hc : Try.prog.cellsOf e = m) (hm : 0 < m)
    (hel : ∀ (n : Nat) (cs : List Value) (x : DataW H × List MemPlace), cs.length = m → DataW.trod enc Try.prog w base (fun _ => true) held n e cs = some x → of cs)
    {fuel len cap : Nat} {a : Option Addr} {x : DataW H × List MemPlace} (h : DataW.trod enc Try.prog w base (fun _ => true) held fuel t [.slice a len cap] = some x) : IsOf m of w a len cap := by
  rcases open_slice ht h with ⟨hcs, _⟩ | ⟨a', l, c, mm, n, D, Pl, hcs, _, hl, hmx, hmm, _, hi⟩
  · simp at hcs
    obtain ⟨rfl, rfl, rfl⟩ := hcs
    exact ⟨Nat.le_refl _, by unfold maxLen; omega, .inl rfl⟩
  · simp at hcs
    obtain ⟨rfl, rfl, rfl⟩ := hcs
    refine ⟨hl, hmx, ?_⟩
    rcases Nat.eq_zero_or_pos len with h0 | h0
    · exact .inl h0
    · have hmc : mm = cap := by rw [hmm, if_pos rfl]
      obtain ⟨b, off, spot⟩ := a'
      have key : ∀ i, i < len → ∃ cs' : List Value, cs'.length = m ∧ (∀ j, j < m → w.cell? ((⟨b, off, spot⟩ : Addr).add (i * m + j)) = cs'[j]?) ∧ of cs' := by
        intro i hil
        obtain ⟨cs', hc', ht'⟩ := hi i (by omega)
        rw [hc] at hc'
        obtain ⟨_, hcl, hat⟩ := World.cells?_some hc'
        exact ⟨cs', hcl, fun j hj => by rw [← Go.Deep.add_add]; exact hat j hj, by
          obtain ⟨y, hy⟩ : ∃ y, DataW.trod enc Try.prog w base (fun _ => true) held n e cs' = some y := ⟨_, ht'⟩
          exact hel n cs' y hcl hy⟩
      obtain ⟨cs0, hl0, hat0, _⟩ := key 0 h0
      have c00 := hat0 0 hm
      have h1 : cs0[0]? = some (cs0[0]'(by omega)) := List.getElem?_eq_getElem _
      rw [h1] at c00
      have hsp : spot = none := by simpa [Addr.add] using World.cell?_spot c00
      subst hsp
      refine .inr ⟨b, off, rfl, ?_, fun i hil => ?_⟩
      · have := World.block_lt_of_cell? w _ c00
        rwa [block_of_add] at this
      · obtain ⟨cs', hl', hat, ho⟩ := key i hil
        refine ⟨cs', hl', ho, fun j v hv => ?_⟩
        have hj := (List.getElem?_eq_some_iff.1 hv).1
        have := hat j (by omega)
        rw [Addr.add_lit, hv] at this
        rw [Nat.add_assoc]
        exact this
def IsKeys := IsOf 33 fun cs => ∃ k : KV, cs = kcells k.1
def IsWants := IsOf 66 fun cs => ∃ k : WS, cs = encS k
def IsActs := IsOf 67 fun cs => ∃ (kd : Int) (k : WS), (Lit.int .i64 kd).wf = true ∧ cs = .int .i64 kd :: encS k
theorem open_keys {fuel len cap : Nat} {a : Option Addr} {x : DataW H × List MemPlace} (h : DataW.trod enc Try.prog w base (fun _ => true) held fuel 60 [.slice a len cap] = some x) : IsKeys w a len cap :=
  open_of Try.underlying60 cells26 (by decide) (fun n cs x hl ht => el26 hl ht) h
theorem open_wants {fuel len cap : Nat} {a : Option Addr} {x : DataW H × List MemPlace} (h : DataW.trod enc Try.prog w base (fun _ => true) held fuel 37 [.slice a len cap] = some x) : IsWants w a len cap :=
  open_of Try.underlying37 cells35 (by decide) (fun n cs x hl ht => el35 hl ht) h
theorem open_acts {fuel len cap : Nat} {a : Option Addr} {x : DataW H × List MemPlace} (h : DataW.trod enc Try.prog w base (fun _ => true) held fuel 45 [.slice a len cap] = some x) : IsActs w a len cap :=
  open_of Try.underlying45 cells52 (by decide) (fun n cs x hl ht => el52 hl ht) h
end
end Go.Proofs.Ythjgmnafbikihaa
