/-
  Gossip: a row of acts that came in; calls on none.
-/
import Derived.Test.YtpcppphdbalogaaHe
import Derived.Deep.Slices
import Derived.Deep.Fields
import Derived.ChangeSame
import Derived.OpenShut
namespace Go.Proofs.Ytpcppphdbalogaa
open Go.RowKit Go.Sort Go.Maps Go.Deep

/-- one act, cell by cell. -/
def actCells (kd : Int) (A : Option Addr) (n c : Nat) (id : List Int) (fr : Int) : List Value := .int .u8 kd :: .slice A n c :: (id.map (Value.int .u8) ++ [.int .i64 fr])
/-- the row of an act. -/
def RowI (w : World) (a : Option Addr) (len cap : Nat) (zs : List Int) : Prop :=
  (a = none ∧ len = 0 ∧ cap = 0 ∧ zs = []) ∨
  ∃ x, a = some x ∧ len ≤ cap ∧ cap ≤ maxLen ∧ zs.length = cap ∧ (∀ i, i < zs.length → w.cell? (x.add i) = some (.int .i64 (zs.getD i 0))) ∧ ∀ n ∈ zs, (Lit.int .i64 n).wf = true
def IsActs (w : World) (a : Option Addr) (len cap : Nat) : Prop :=
  len ≤ cap ∧ cap ≤ maxLen ∧ (len = 0 ∨ ∃ b off, a = some ⟨b, off, none⟩ ∧ b < w.heap.size ∧ ∀ i, i < len → ∃ kd A n c zs id fr, w.rangeAt b (off + i * 35) (actCells kd A n c id fr) ∧ (Lit.int .u8 kd).wf = true ∧ IsH id ∧ RowI w A n c zs ∧ (Lit.int .i64 fr).wf = true)

theorem cells38 : Try.prog.cellsOf 38 = 35 := by kernel_rfl
theorem cells36 : Try.prog.cellsOf 36 = 32 := by kernel_rfl
theorem cells34 : Try.prog.cellsOf 34 = 1 := by kernel_rfl
theorem cells3 : Try.prog.cellsOf 3 = 1 := by kernel_rfl

theorem one_of {cs : List Value} {k : Nat} (h : k < cs.length) : (cs.drop k).take 1 = [cs[k]] := by
  rw [List.drop_eq_getElem_cons h]; rfl

section
variable {H : Type} {enc : TypeId × Value → H} {w : World} {base : Nat} {held : Bool}
theorem open_h {fuel : Nat} {cs : List Value} {x : DataW H × List MemPlace} {spare : Nat → Bool} (h : DataW.trod enc Try.prog w base spare held fuel 36 cs = some x) : ∃ id, IsH id ∧ cs = id.map (Value.int .u8) := by
  obtain ⟨xs, m, _, _, hl, hxl, hg⟩ := DataW.trod_array Try.underlying36 h
  rw [cells36] at hl
  have hv : ∀ i (hi : i < cs.length), ∃ n, cs[i] = .int .u8 n ∧ (Lit.int .u8 n).wf = true := by
    intro i hi
    have h1 := hg i (by omega)
    rw [Try.cells5, Nat.mul_one, one_of hi, List.getElem?_eq_getElem (by omega)] at h1
    obtain ⟨n, hn, _, hw⟩ := DataW.trod_int Try.u5 h1
    exact ⟨n, by simpa using hn, hw⟩
  let g : Value → Int := fun v => match v with
    | .int _ n => n
    | _ => 0
  refine ⟨cs.map g, ⟨by simpa using hl, fun z hz => ?_⟩, ?_⟩
  · obtain ⟨v, hv', rfl⟩ := List.mem_map.1 hz
    obtain ⟨i, hi, rfl⟩ := List.mem_iff_getElem.1 hv'
    obtain ⟨n, hn, hw⟩ := hv i hi
    rw [hn]; exact hw
  · apply List.ext_getElem (by simp)
    intro i h1 h2
    obtain ⟨n, hn, hw⟩ := hv i h1
    simp only [List.getElem_map, hn]
    rfl

theorem open_acts {fuel len cap : Nat} {a : Option Addr} {x : DataW H × List MemPlace} (h : DataW.trod enc Try.prog w base (fun _ => true) held fuel 23 [.slice a len cap] = some x) : IsActs w a len cap := by
  rcases open_slice Try.underlying23 h with ⟨hcs, _⟩ | ⟨a', l, c, m, n, D, Pl, hcs, _, hl, hm, hmm, _, hi⟩
  · simp at hcs
    obtain ⟨rfl, rfl, rfl⟩ := hcs
    exact ⟨Nat.le_refl _, by unfold maxLen; omega, .inl rfl⟩
  · simp at hcs
    obtain ⟨rfl, rfl, rfl⟩ := hcs
    refine ⟨hl, hm, ?_⟩
    rcases Nat.eq_zero_or_pos len with h0 | h0
    · exact .inl h0
    · have hmc : m = cap := by rw [hmm, if_pos rfl]
      obtain ⟨b, off, spot⟩ := a'
      have key : ∀ i, i < len → ∃ cs' : List Value, cs'.length = 35 ∧ (∀ j, j < 35 → w.cell? ((⟨b, off, spot⟩ : Addr).add (i * 35 + j)) = cs'[j]?) ∧ ∃ kd A n c zs id fr, cs' = actCells kd A n c id fr ∧ (Lit.int .u8 kd).wf = true ∧ IsH id ∧ RowI w A n c zs ∧ (Lit.int .i64 fr).wf = true := by
        intro i hil
        obtain ⟨cs', hc, ht'⟩ := hi i (by omega)
        rw [cells38] at hc
        obtain ⟨_, hcl, hat⟩ := World.cells?_some hc
        refine ⟨cs', hcl, fun j hj => by rw [← Go.Deep.add_add]; exact hat j hj, ?_⟩
        obtain ⟨ys, n', _, _, _, hyl, hf⟩ := DataW.trod_struct Try.underlying38 ht'
        have f0 : DataW.trod enc Try.prog w base (fun _ => true) held n' 5 ((cs'.drop 0).take (Try.prog.cellsOf 5)) = ys[0]? := hf 0 _ rfl
        have f1 : DataW.trod enc Try.prog w base (fun _ => true) held n' 34 ((cs'.drop 1).take (Try.prog.cellsOf 34)) = ys[1]? := hf 1 _ rfl
        have f2 : DataW.trod enc Try.prog w base (fun _ => true) held n' 36 ((cs'.drop 2).take (Try.prog.cellsOf 36)) = ys[2]? := hf 2 _ rfl
        have f3 : DataW.trod enc Try.prog w base (fun _ => true) held n' 3 ((cs'.drop 34).take (Try.prog.cellsOf 3)) = ys[3]? := hf 3 _ rfl
        have hyl : ys.length = 4 := hyl
        have t0 : (cs'.drop 0).take 1 = [cs'[0]'(by omega)] := one_of (by omega)
        have t1 : (cs'.drop 1).take 1 = [cs'[1]'(by omega)] := one_of (by omega)
        have t3 : (cs'.drop 34).take 1 = [cs'[34]'(by omega)] := one_of (by omega)
        simp only [Try.cells5] at f0
        simp only [cells34] at f1
        simp only [cells36] at f2
        simp only [cells3] at f3
        rw [t0, List.getElem?_eq_getElem (by omega)] at f0
        rw [t1, List.getElem?_eq_getElem (by omega)] at f1
        rw [List.getElem?_eq_getElem (by omega)] at f2
        rw [t3, List.getElem?_eq_getElem (by omega)] at f3
        obtain ⟨kd, hkd, _, wk⟩ := DataW.trod_int Try.u5 f0
        obtain ⟨id, hid, he⟩ := open_h f2
        obtain ⟨fr, hfr, _, wf⟩ := DataW.trod_int Try.underlying3 f3
        have hslice : ∃ A n c zs, cs'[1]'(by omega) = .slice A n c ∧ RowI w A n c zs := by
          rcases Go.ChangeShapes.open_ints Try.underlying34 Try.underlying3 cells3 f1 with ⟨hcs, _⟩ | ⟨x, l, c, zs, hcs, _, hl, hm, hz, _, hcell, hwz⟩
          · exact ⟨none, 0, 0, [], by simpa using hcs, .inl ⟨rfl, rfl, rfl, rfl⟩⟩
          · exact ⟨some x, l, c, zs, by simpa using hcs, .inr ⟨x, rfl, hl, hm, by simpa using hz, hcell, hwz⟩⟩
        obtain ⟨A, n, c, zs, hsl, hrow⟩ := hslice
        refine ⟨kd, A, n, c, zs, id, fr, ?_, wk, hid, hrow, wf⟩
        unfold actCells
        have e : cs' = (cs'.drop 0).take 1 ++ ((cs'.drop 1).take 1 ++ ((cs'.drop 2).take 32 ++ (cs'.drop 34).take 1)) := by
          apply List.ext_getElem?
          intro j
          simp only [List.getElem?_append, List.length_take, List.length_drop, List.getElem?_take, List.getElem?_drop]
          repeat' split
          all_goals first | (congr 1; omega) | (rw [List.getElem?_eq_none (by omega)]) | skip
        rw [e, t0, t1, t3, he]
        have e0 : cs'[0]'(by omega) = .int .u8 kd := by simpa using hkd
        have e3 : cs'[34]'(by omega) = .int .i64 fr := by simpa using hfr
        rw [e0, hsl, e3]
        rfl
      obtain ⟨cs0, hl0, hat0, kd0, A0, n0, c0, zs0, id0, fr0, he0, _⟩ := key 0 h0
      have c00 := hat0 0 (by omega)
      have hsp : spot = none := by
        have h1 : cs0[0]? = some (.int .u8 kd0) := by rw [he0]; rfl
        rw [h1] at c00
        simpa [Addr.add] using World.cell?_spot c00
      subst hsp
      refine .inr ⟨b, off, rfl, ?_, fun i hil => ?_⟩
      · have h1 : cs0[0]? = some (.int .u8 kd0) := by rw [he0]; rfl
        rw [h1] at c00
        have := World.block_lt_of_cell? w _ c00
        rwa [block_of_add] at this
      · obtain ⟨cs', hl', hat, kd, A, n, c, zs, id, fr, he, wk, hid, hrow, wf⟩ := key i hil
        refine ⟨kd, A, n, c, zs, id, fr, fun j v hv => ?_, wk, hid, hrow, wf⟩
        rw [← he] at hv
        have hj := (List.getElem?_eq_some_iff.1 hv).1
        have := hat j (by omega)
        rw [Addr.add_lit, hv] at this
        rw [Nat.add_assoc]
        exact this
end

theorem round_nil2 (a : Option Addr) (n c : Nat) (w : World) : Calls Try.prog 10 #[.pointer none, .slice a n c] w fun e w' => e = .returned (.slice none 0 0) ∧ Below w.heap.size w w' :=
  (round_nil a n c w).mono (by rintro e w' ⟨rfl, rfl⟩; exact ⟨rfl, Below.refl _ _⟩)
theorem flood_nil (cs : Array Value) (a : Option Addr) (n c : Nat) (f : Int) (w : World) : Calls Try.prog 13 #[.pointer none, .agg cs, .slice a n c, .int .i64 f] w fun e w' => e = .returned (.slice none 0 0) ∧ Below w.heap.size w w' := by
  go_enter Try.func13, Try.ntmps13
  go_wp2_with fail
  go_quiet (fail)
  go_wp2
  go_ret
  exact ⟨rfl, below_dN (((Below.refl _ w).alloc (Nat.le_refl _) _).alloc (by simp) _) _⟩
theorem seen_nil (cs : Array Value) (w : World) : Calls Try.prog 15 #[.pointer none, .agg cs] w fun e w' => e = .returned (.bool false) ∧ Below w.heap.size w w' := by
  go_enter Try.func15, Try.ntmps15
  go_wp2_with fail
  go_quiet (fail)
  go_wp2
  go_ret
  exact ⟨rfl, below_dN ((Below.refl _ w).alloc (Nat.le_refl _) _) _⟩
end Go.Proofs.Ytpcppphdbalogaa
