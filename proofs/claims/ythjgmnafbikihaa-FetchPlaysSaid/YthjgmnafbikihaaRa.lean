/-
  Fetch, the document's answer: a hash as a text; how two keys stand.
-/
import Derived.Test.YthjgmnafbikihaaFw
import Derived.Laws.BytesArg
set_option linter.unusedVariables false
set_option linter.unusedSimpArgs false
namespace Go.Proofs.Ythjgmnafbikihaa
open Go.RowKit Go.Maps Go.Sort

theorem str_snoc (xs : List Int) (z : Int) : strOfNums xs ++ strOfNums [z] = strOfNums (xs ++ [z]) := by
  apply ByteArray.ext
  simp [strOfNums]
theorem less_str : ∀ (l m : List Int), (∀ z ∈ l, (Lit.int .u8 z).wf = true) → (∀ z ∈ m, (Lit.int .u8 z).wf = true) → Op.bytesLess (Lib.bytesOf l) (Lib.bytesOf m) = decide (cmpL l m < 0)
  | [], [], _, _ => rfl
  | [], _ :: _, _, _ => rfl
  | _ :: _, [], _, _ => rfl
  | x :: l, y :: m, hl, hm => by
    have e1 := u8_lt (hl x (by simp)) (hm y (by simp))
    have e2 := u8_lt (hm y (by simp)) (hl x (by simp))
    have ih := less_str l m (fun z hz => hl z (by simp [hz])) (fun z hz => hm z (by simp [hz]))
    show (decide (UInt8.ofNat x.toNat < UInt8.ofNat y.toNat) || (UInt8.ofNat x.toNat == UInt8.ofNat y.toNat && Op.bytesLess (Lib.bytesOf l) (Lib.bytesOf m))) = decide (cmpL (x :: l) (y :: m) < 0)
    unfold cmpL
    by_cases h1 : x < y
    · simp [e1.2 h1, h1]
    · by_cases h2 : y < x
      · have n1 : ¬ UInt8.ofNat x.toNat < UInt8.ofNat y.toNat := fun h => h1 (e1.1 h)
        have n2 : (UInt8.ofNat x.toNat == UInt8.ofNat y.toNat) = false := by
          rw [beq_eq_false_iff_ne]
          intro e
          have := e2.2 h2
          rw [e] at this
          exact absurd this (UInt8.lt_irrefl _)
        simp [n1, n2, h1, h2]
      · have n1 : ¬ UInt8.ofNat x.toNat < UInt8.ofNat y.toNat := fun h => h1 (e1.1 h)
        have e : x = y := by omega
        subst e
        simp [n1, h1, ih]
theorem run_text (w : World) (b : Nat) (z : Int) (h : w.cell? ⟨b, 0, none⟩ = some (.int .u8 z)) : (convert 110 9 (.slice (some ⟨b, 0, none⟩) 1 1)).run Try.prog w = .ok (.string (strOfNums [z])) w := by
  refine run_convert_bytes_arg w 110 5 Try.underlying110 Try.underlying5 b 0 1 1 [z] rfl (fun i hi => ?_) 9 Try.underlying9
  obtain rfl : i = 0 := by omega
  simpa using h
set_option maxRecDepth 100000 in
theorem raw_any (id : List Int) (h : IsH id) (w : World) : Calls Try.prog 40 #[.agg (id.map (Value.int .u8)).toArray] w fun e w' => e = .returned (.string (strOfNums id)) ∧ Lay w w' := by
  obtain ⟨h32, hwf⟩ := h
  obtain ⟨il, hil⟩ : ∃ il, id.map (Value.int .u8) = il := ⟨_, rfl⟩
  have HIL := Lib.hid hil
  have H32 := Lib.hid h32
  have hbk := Blk.new w 24 il.toArray
  have HB := Lib.hid hbk
  have HL := Lib.hid ((Lay.refl w).alloc (.cells il.toArray 24))
  have hrt := run_text
  rw [hil]
  clear hil hwf h32 hbk
  go_enter Try.func40, Try.ntmps40
  go_wp2_with fail
  obtain ⟨W, hW⟩ : ∃ W, W = w.alloc (.cells il.toArray 24) := ⟨_, rfl⟩
  obtain ⟨bb, hbb⟩ : ∃ bb, bb = w.heap.size := ⟨_, rfl⟩
  rw [← hW] at HB HL ⊢
  rw [← hbb] at HB ⊢
  clear hW hbb
  go_loopw [3, 4] (fun sv iv wr => ∃ i : Nat, i ≤ 32 ∧ iv = .int .i64 i ∧ sv = .string (strOfNums (id.take i)) ∧ Lay W wr)
    (fun _ iv _ => 32 - (intOf iv).toNat)
  case atStart => exact ⟨0, by omega, rfl, rfl, Lay.refl _⟩
  case round =>
    obtain ⟨i, hi, rfl, rfl, hl⟩ := hrel
    by_cases hlt : i < 32
    · obtain ⟨z, hz⟩ : ∃ z, id[i]? = some z := ⟨_, List.getElem?_eq_getElem (by rw [H32.out]; exact hlt)⟩
      have hc : wr.cell? ⟨bb, i, none⟩ = some (.int .u8 z) := by
        have h1 := (HB.out.below hl.below HB.out.lt).range i (.int .u8 z) (by rw [← HIL.out]; simp [hz])
        simpa using h1
      have hs : strOfNums (id.take i) ++ strOfNums [z] = strOfNums (id.take (i + 1)) := by
        rw [str_snoc]
        congr 1
        rw [List.take_add_one, hz]; rfl
      have HS := Lib.hid hs
      have HLW := Lib.hid hl
      have hsz : (strOfNums (id.take i)).size = i := by rw [strOfNums_size, List.length_take, H32.out]; omega
      have hs1 : (strOfNums [z]).size = 1 := rfl
      clear hs hl hz
      generalize strOfNums (id.take i) = s0 at HS hsz ⊢
      go_wp2_with fail
      go_roundw
      case rel => exact ⟨i + 1, by omega, by go_num, by rw [HS.out], HLW.out.alloc _⟩
      case measure => first | (simp [intOf]; done) | (simp [intOf]; omega)
    · obtain rfl : i = 32 := by omega
      have HLW := Lib.hid hl
      have e : id.take 32 = id := List.take_of_length_le (by rw [H32.out]; omega)
      rw [e]
      clear hl e
      go_wp2_with fail
      go_ret
      exact ⟨rfl, HL.out.trans HLW.out⟩
end Go.Proofs.Ythjgmnafbikihaa
