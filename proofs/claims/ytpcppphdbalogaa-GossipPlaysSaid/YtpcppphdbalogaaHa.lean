/-
  Gossip: the reference's auditor in memory; its 'others' tells as the plain 'oth' does.
-/
import Derived.Test.YtpcppphdbalogaaGj
namespace Go.Proofs.Ytpcppphdbalogaa
open Go.RowKit Go.Sort

/-- the reference's auditor, cell by cell. -/
def refCells (me many fan s : Int) (tv : Value) : Array Value := #[.int .i64 me, .int .i64 many, .int .i64 fan, .int .u64 s, tv]
theorem ref_cells {w : World} {b : Nat} {me many fan s : Int} {tv : Value} (h : Blk w b 31 (refCells me many fan s tv)) :
    w.cell? ⟨b, 0, none⟩ = some (.int .i64 me) ∧ w.cell? ⟨b, 1, none⟩ = some (.int .i64 many) ∧ w.cell? ⟨b, 2, none⟩ = some (.int .i64 fan) ∧ w.cell? ⟨b, 3, none⟩ = some (.int .u64 s) ∧ w.cell? ⟨b, 4, none⟩ = some tv :=
  ⟨h.cell 0, h.cell 1, h.cell 2, h.cell 3, h.cell 4⟩

/-- may x be told, for now. -/
def fits (m : Nat) (me but x : Int) : Bool := decide (0 ≤ x) && decide (x < (m : Int)) && decide (x ≠ me) && (x != but)
theorem can_fits (m : Nat) (me but x : Int) (zs : List Int) : canTell m me (fun k => k != but) (oth m me (fun k => k != but) zs) x = (fits m me but x && !decide (x ∈ zs)) := by
  unfold canTell fits
  by_cases h1 : 0 ≤ x <;> by_cases h2 : x < (m : Int) <;> by_cases h3 : x = me <;> by_cases h4 : x = but <;> by_cases h5 : x ∈ zs <;> simp [h1, h2, h3, h4, h5, oth_mem]

/-- what holds ahead of each round of the reference's 'others'. -/
structure ROth (W wr : World) (m i : Nat) (me but : Int) (zs : List Int) (ov : Value) : Prop where
  out : wr.ownsRow W.heap.size 3 1 ov (oth m me (fun k => k != but) (zs.take i)).length (ints (oth m me (fun k => k != but) (zs.take i)))
  below : Below W.heap.size W wr

section
variable {W wr : World} {m i : Nat} {me but x : Int} {zs : List Int} {ov : Value}
theorem ROth.drewN (h : ROth W wr m i me but zs ov) (q : Nat) : ROth W (wr.drewN q) m i me but zs ov := ⟨h.out, below_dN h.below q⟩
theorem ROth.skip (h : ROth W wr m i me but zs ov) (hi : i < zs.length) (hx : zs.getD i 0 = x) (hc : (fits m me but x && !decide (x ∈ zs.take i)) = false) : ROth W wr m (i + 1) me but zs ov := by
  have e : oth m me (fun k => k != but) (zs.take (i + 1)) = oth m me (fun k => k != but) (zs.take i) := by rw [oth_take hi, othStep, hx, can_fits, hc]; rfl
  exact ⟨by rw [e]; exact h.out, h.below⟩
theorem ROth.take {w3 : World} {v3 : Value} {o : Obj} (h : ROth W wr m i me but zs ov) (hi : i < zs.length) (hx : zs.getD i 0 = x) (hc : (fits m me but x && !decide (x ∈ zs.take i)) = true)
    (hown : w3.ownsRow W.heap.size 3 1 v3 ((oth m me (fun k => k != but) (zs.take i)).length + 1) (ints (oth m me (fun k => k != but) (zs.take i)) ++ [.int .i64 x])) (hgrow : (wr.alloc o).grownBy w3 ov.ownBlock) : ROth W w3 m (i + 1) me but zs v3 := by
  have e : oth m me (fun k => k != but) (zs.take (i + 1)) = oth m me (fun k => k != but) (zs.take i) ++ [x] := by rw [oth_take hi, othStep, hx, can_fits, hc]; rfl
  exact ⟨by rw [e]; simpa [ints] using hown, (h.below.alloc h.below.size o).grown hgrow (by have := h.below.size; simp at this ⊢; omega) (fun k e => (h.out.lt k e).1)⟩
end

theorem isl_cells {w : World} {a : Option Addr} {n : Nat} {zs : List Int} (h : IsL w a n zs) (hn : 0 < n) : ∃ b off, a = some ⟨b, off, none⟩ ∧ b < w.heap.size ∧ ∀ i, i < n → w.cell? ⟨b, off + i, none⟩ = some (.int .i64 (zs.getD i 0)) := by
  obtain ⟨b, off, e, hb, _⟩ := isl_cell h hn
  refine ⟨b, off, e, hb, fun i hi => ?_⟩
  obtain ⟨b', off', e', _, h'⟩ := isl_cell h hi
  rw [e] at e'
  injection e' with e'
  injection e' with e1 e2
  rw [e1, e2]
  exact h'
theorem mem_take_succ {zs : List Int} {j : Nat} {x y : Int} (hj : j < zs.length) (hy : zs.getD j 0 = y) : (x ∈ zs.take (j + 1)) ↔ (x ∈ zs.take j ∨ x = y) := by
  rw [take_getD hj, hy]; simp

set_option maxHeartbeats 1600000 in
theorem rothers_any (m n c : Nat) (me fan s but : Int) (tv : Value) (a : Option Addr) (zs : List Int) (w : World) (hl : IsL w a n zs) (hn : n ≤ 1000) :
    Calls Try.prog 22 #[.agg (refCells me (m : Int) fan s tv), .slice a n c, .int .i64 but] w fun e w' => ∃ v, e = .returned v ∧
      w'.ownsRow w.heap.size 3 1 v (oth m me (fun k => k != but) zs).length (ints (oth m me (fun k => k != but) zs)) ∧ Below w.heap.size w w' := by
  obtain ⟨i0, hi, hz0, hz1, hz2⟩ := info_parts Try.info3
  have hzl := hl.1
  obtain ⟨W, hW⟩ : ∃ W, W = w.alloc (.cells (refCells me (m : Int) fan s tv) 31) := ⟨_, rfl⟩
  have hB : Below w.heap.size w W := by rw [hW]; exact (Below.refl _ w).alloc (Nat.le_refl _) _
  have hbk : Blk W w.heap.size 31 (refCells me (m : Int) fan s tv) := by rw [hW]; exact Blk.new w 31 _
  have hWs : w.heap.size < W.heap.size := hbk.lt
  have HL := Lib.hid (isl_below hl hB)
  have HB := Lib.hid hB
  obtain ⟨hc0, hc1, _, _, _⟩ := ref_cells hbk
  obtain ⟨bx, hbx⟩ : ∃ bx, bx = w.heap.size := ⟨_, rfl⟩
  rw [← hbx] at hc0 hc1 hWs
  have HZ := Lib.hid hzl
  clear hl hB hbk hzl
  go_enter Try.func22, Try.ntmps22
  go_wp2_with fail
  rw [← hW, ← hbx]
  have HX := Lib.hid hbx
  clear hW hbx
  go_loopw [7, 8, 9, 10] (fun ov iv _ _ wr => ∃ i : Nat, i ≤ n ∧ iv = .int .i64 i ∧ ROth W wr m i me but zs ov)
    (fun _ iv _ _ _ => n - (intOf iv).toNat)
  case atStart => exact ⟨0, Nat.zero_le _, rfl, World.ownsRow_nil _ _ _ _, Below.refl _ _⟩
  case round =>
    obtain ⟨i, hin, rfl, R⟩ := hrel
    by_cases hlt : i < n
    · obtain ⟨ab, off, rfl, hab, HC⟩ := isl_cells HL.out (by omega)
      have hcz := HC i hlt
      have hzi : i < zs.length := by have := HZ.out; omega
      have hcw := (R.below.cell (p := ⟨ab, off + i, none⟩) hab).trans hcz
      have hd0 := (R.below.cell (p := ⟨bx, 0, none⟩) hWs).trans hc0
      have hd1 := (R.below.cell (p := ⟨bx, 1, none⟩) hWs).trans hc1
      clear hcz
      obtain ⟨x, hx⟩ : ∃ x, zs.getD i 0 = x := ⟨_, rfl⟩
      rw [hx] at hcw
      have HXX := Lib.hid hx
      have HR := Lib.hid R
      clear hx R
      have key : (x < 0) ∨ (0 ≤ x ∧ (m : Int) ≤ x) ∨ (0 ≤ x ∧ x < (m : Int) ∧ x = me) ∨ (0 ≤ x ∧ x < (m : Int) ∧ x ≠ me ∧ x = but) ∨ (0 ≤ x ∧ x < (m : Int) ∧ x ≠ me ∧ x ≠ but) := by omega
      have HC2 := Lib.hid HC
      clear HC
      obtain ⟨fb, hfb⟩ : ∃ fb, fits m me but x = fb := ⟨_, rfl⟩
      have HF := Lib.hid hfb
      have hcase : (fb = false ∧ ((x < 0) ∨ (0 ≤ x ∧ (m : Int) ≤ x) ∨ (0 ≤ x ∧ x < (m : Int) ∧ x = me) ∨ (0 ≤ x ∧ x < (m : Int) ∧ x ≠ me ∧ x = but))) ∨ (fb = true ∧ 0 ≤ x ∧ x < (m : Int) ∧ x ≠ me ∧ x ≠ but) := by
        rw [← hfb]
        rcases key with h1 | ⟨h1, h2⟩ | ⟨h1, h2, h3⟩ | ⟨h1, h2, h3, h4⟩ | ⟨h1, h2, h3, h4⟩
        · exact .inl ⟨by unfold fits; simp; omega, by omega⟩
        · exact .inl ⟨by unfold fits; simp; omega, by omega⟩
        · exact .inl ⟨by unfold fits; simp; omega, by omega⟩
        · exact .inl ⟨by unfold fits; simp; omega, by omega⟩
        · exact .inr ⟨by unfold fits; simp; omega, h1, h2, h3, h4⟩
      clear key hfb
      rcases hcase with ⟨rfl, h1 | ⟨h1, h2⟩ | ⟨h1, h2, h3⟩ | ⟨h1, h2, h3, h4⟩⟩ | ⟨rfl, h1, h2, h3, h4⟩
      all_goals
        first
          | have d1 : decide (0 ≤ x) = false := by simp; omega
          | have d1 : decide (x < (m : Int)) = false := by simp; omega
          | skip
        first
          | (have e3 : (x != me) = true := by simp [h3]
             have e4 : (x != but) = true := by simp [h4]
             clear h3 h4)
          | (have e3 : (x != me) = true := by simp [h3]
             have e4 : (x != but) = false := by simp [h4]
             clear h3 h4)
          | (have e3 : (x != me) = false := by simp [h3]
             clear h3)
          | skip
        go_wp2_with fail
        go_quiet (fail)
        go_wp2_with fail
        have HR2 := Lib.hid (HR.out.drewN nq)
        go_loopw [9, 10] (fun sv jv wr' => ∃ j : Nat, j ≤ i ∧ jv = .int .i64 j ∧ sv = .bool (fits m me but x && !decide (x ∈ zs.take j)) ∧ ROth W wr' m i me but zs u7)
          (fun _ jv _ => i - (intOf jv).toNat)
        case atStart => exact ⟨0, Nat.zero_le _, rfl, by rw [HF.out]; rfl, HR2.out⟩
        case round =>
          obtain ⟨j, hj, rfl, rfl, R2⟩ := hrel
          obtain ⟨sb, hsb⟩ : ∃ sb, (fits m me but x && !decide (x ∈ zs.take j)) = sb := ⟨_, rfl⟩
          rw [hsb]
          have HS := Lib.hid hsb
          clear hsb hcw hd0 hd1 HR HR2
          have cx := (R2.below.cell (p := ⟨ab, off + i, none⟩) hab).trans (HC2.out i hlt)
          rw [HXX.out] at cx
          by_cases hji : j < i
          · obtain ⟨y, hy⟩ : ∃ y, zs.getD j 0 = y := ⟨_, rfl⟩
            have cy := (R2.below.cell (p := ⟨ab, off + j, none⟩) hab).trans (HC2.out j (by omega))
            rw [hy] at cy
            have HM := Lib.hid (mem_take_succ (x := x) (show j < zs.length by have := HZ.out; omega) hy)
            have HR3 := Lib.hid R2
            clear hy R2
            cases sb with
            | false =>
              have HN : Hid ((fits m me but x && !decide (x ∈ zs.take (j + 1))) = false) := by
                show _ = _
                have := HS.out
                cases hf : fits m me but x
                · rfl
                · rw [hf] at this
                  have hm : x ∈ zs.take j := by simpa using this
                  have : x ∈ zs.take (j + 1) := HM.out.2 (.inl hm)
                  simp [this]
              go_wp2_with fail
              go_quiet (fail)
              go_wp2_with fail
              go_roundw
              case rel => exact ⟨j + 1, by omega, by go_num, by rw [HN.out], HR3.out.drewN _⟩
              case measure => simp [intOf]; omega
            | true =>
              by_cases hxy : y = x
              · have e5 : (y != x) = false := by simp [hxy]
                have HN : Hid ((fits m me but x && !decide (x ∈ zs.take (j + 1))) = false) := by
                  show _ = _
                  have : x ∈ zs.take (j + 1) := HM.out.2 (.inr hxy.symm)
                  simp [this]
                clear hxy
                go_wp2_with fail
                go_quiet (fail)
                go_wp2_with fail
                go_roundw
                case rel => exact ⟨j + 1, by omega, by go_num, by rw [HN.out], HR3.out.drewN _⟩
                case measure => simp [intOf]; omega
              · have e5 : (y != x) = true := by simp [hxy]
                have HN : Hid ((fits m me but x && !decide (x ∈ zs.take (j + 1))) = true) := by
                  show _ = _
                  have h0 := HS.out
                  simp only [Bool.and_eq_true, Bool.not_eq_true', decide_eq_false_iff_not] at h0
                  have : x ∉ zs.take (j + 1) := fun h => by
                    rcases HM.out.1 h with h | h
                    · exact h0.2 h
                    · exact hxy h.symm
                  simp [this, h0.1]
                clear hxy
                go_wp2_with fail
                go_quiet (fail)
                go_wp2_with fail
                go_roundw
                case rel => exact ⟨j + 1, by omega, by go_num, by rw [HN.out], HR3.out.drewN _⟩
                case measure => simp [intOf]; omega
          · obtain rfl : j = i := by omega
            have ho := R2.out
            have holn : (oth m me (fun k => k != but) (zs.take j)).length ≤ n := Nat.le_trans (oth_length _ _ _ _) (by simp; omega)
            cases sb with
            | false =>
              have S := Lib.hid (R2.skip hzi HXX.out HS.out)
              clear R2 ho cx
              go_wp2_with fail
              go_roundw
              case rel => exact ⟨j + 1, by omega, by go_num, S.out⟩
              case measure => simp [intOf]; omega
            | true =>
              have TK := fun {w3 : World} {v3 : Value} {o : Obj} (h1 : w3.ownsRow W.heap.size 3 1 v3 ((oth m me (fun k => k != but) (zs.take j)).length + 1) (ints (oth m me (fun k => k != but) (zs.take j)) ++ [.int .i64 x])) (h2 : (wr.alloc o).grownBy w3 u7.ownBlock) => Lib.hid (R2.take hzi HXX.out HS.out h1 h2)
              have hsz2 := R2.below.size
              clear R2
              go_wp2_with (at_builtin; go_must (refine wpList_append_any _ rfl (.tmp 66) (.tmp 71) _ rfl W.heap.size 3 i0 _ 1 8 Try.underlying34 hi hz0 hz1 hz2 rfl (by omega) u7 (oth m me (fun k => k != but) (zs.take j)).length (ints (oth m me (fun k => k != but) (zs.take j))) rfl (ho.alloc _) (wr.heap.size + 1) (some ⟨wr.heap.size, 0, none⟩) 1 1 [.int .i64 x] rfl (by simpa using reads_one wr (.int .i64 x) _) (one_cell _) ?c3 ?c4 ?c5 ?_))
              case c3 => unfold maxLen; omega
              case c4 => omega
              case c5 => simp; omega
              intro v3 w3 hown3 hgrow3 _
              have T := TK hown3 hgrow3
              clear TK hown3 hgrow3 ho
              go_wp2
              go_roundw
              case rel => exact ⟨j + 1, by omega, by go_num, T.out⟩
              case measure => simp [intOf]; omega
    · obtain rfl : i = n := by omega
      have e1 : zs.take i = zs := List.take_of_length_le (by have := HZ.out; omega)
      have RO := R.out
      rw [e1] at RO
      have RB := R.below
      clear R HL hc0 hc1 e1
      go_wp2_with fail
      go_ret
      exact ⟨_, rfl, own_base RO HB.out.size, HB.out.trans (RB.mono HB.out.size)⟩
end Go.Proofs.Ytpcppphdbalogaa
