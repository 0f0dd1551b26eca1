/-
  Fetch: two keys are compared: by size, then by root.
-/
import Derived.Test.YthjgmnafbikihaaFa
import Derived.Test.YthjgmnafbikihaaDa
import Derived.Test.YthjgmnafbikihaaMid
import Derived.Test.YthjgmnafbikihaaBld
import Derived.Test.YthjgmnafbikihaaBq
import Derived.Lib.BytesEntry
import Derived.Laws.Externs
import Derived.Lib.Hide
import Derived.OpenShut
import Derived.Deep.DeepMust
import Derived.StillTailTactics
import Derived.Sort.Grow
import Derived.Deep.RegionHeld3
set_option linter.unusedVariables false
set_option linter.unusedSimpArgs false
namespace Go.Proofs.Ythjgmnafbikihaa
open Go.RowKit

/-- an array of 32 bytes. -/
def IsH (zs : List Int) : Prop := zs.length = 32 ∧ ∀ z ∈ zs, (Lit.int .u8 z).wf = true
def IsK (k : K) : Prop := (Lit.int .u64 k.1).wf = true ∧ IsH k.2
def kcells (k : K) : List Value := .int .u64 k.1 :: k.2.map (Value.int .u8)
theorem kcells_length {k : K} (h : IsK k) : (kcells k).length = 33 := by simp [kcells, h.2.1]

/-- all that lay in w lies as it did; no draw is taken back. -/
structure Lay (w w' : World) : Prop where
  below : Below w.heap.size w w'
  drawn : w.drawn ≤ w'.drawn
section
variable {w a b : World}
theorem Lay.refl (w : World) : Lay w w := ⟨Below.refl _ _, Nat.le_refl _⟩
theorem Lay.trans (h : Lay w a) (k : Lay a b) : Lay w b := ⟨h.below.trans (k.below.mono h.below.size), Nat.le_trans h.drawn k.drawn⟩
theorem Lay.alloc (h : Lay w a) (o : Obj) : Lay w (a.alloc o) := ⟨h.below.alloc h.below.size o, h.drawn⟩
theorem Lay.drew (h : Lay w a) : Lay w a.drew := ⟨⟨h.below.os, h.below.tape, h.below.output, h.below.size, h.below.block⟩, Nat.le_succ_of_le h.drawn⟩
theorem Lay.drewN (h : Lay w a) (n : Nat) : Lay w (a.drewN n) := ⟨⟨h.below.os, h.below.tape, h.below.output, h.below.size, h.below.block⟩, Nat.le_trans h.drawn (Nat.le_add_right _ _)⟩
theorem Lay.setCell (h : Lay w a) {p : Addr} (hp : w.heap.size ≤ p.block) (u : Value) : Lay w (a.setCell p u) := ⟨Below.setCell h.below hp u, h.drawn⟩
theorem Lay.grow_ (h : Lay w a) : ∃ q os, a = Go.Sort.grow (w.drewN q) os := by
  refine ⟨a.drawn - w.drawn, a.heap.extract w.heap.size a.heap.size, ?_⟩
  have e1 : w.heap ++ a.heap.extract w.heap.size a.heap.size = a.heap := by
    apply Array.ext_getElem?
    intro i
    by_cases hi : i < w.heap.size
    · rw [Array.getElem?_append_left hi]; exact (h.below.block i hi).symm
    · rw [Array.getElem?_append_right (by omega), Array.getElem?_extract]
      have := h.below.size
      split
      · congr 1; omega
      · rw [Array.getElem?_eq_none (by omega)]
  have e2 : w.drawn + (a.drawn - w.drawn) = a.drawn := by have := h.drawn; omega
  unfold Go.Sort.grow
  show a = { heap := w.heap ++ _, tape := w.tape, drawn := w.drawn + _, os := w.os, output := w.output }
  rw [e1, e2, ← h.below.tape, ← h.below.os, ← h.below.output]
end

/-- numbers beside numbers. -/
def cmpI (a b : Int) : Int := if a < b then -1 else if b < a then 1 else 0
theorem isNaN_any (a : Int) (w : World) : Calls Try.prog 59 #[.int .u64 a] w fun e w' => e = .returned (.bool false) ∧ w' = w := by
  go_enter Try.func59, Try.ntmps59
  go_wp2
  go_ret
  exact ⟨rfl, rfl⟩
theorem cmp_any (a b : Int) (w : World) : Calls Try.prog 52 #[.int .u64 a, .int .u64 b] w fun e w' => e = .returned (.int .i64 (cmpI a b)) ∧ w' = w := by
  have h : a < b ∨ (¬ a < b ∧ b < a) ∨ (¬ a < b ∧ ¬ b < a) := by omega
  rcases h with h1 | ⟨h1, h2⟩ | ⟨h1, h2⟩
  all_goals
    go_enter Try.func52, Try.ntmps52
    go_wp2_with (go_at_call 59; refine (isNaN_any _ _).mono ?_; rintro e w' ⟨rfl, rfl⟩)
    go_ret
    refine ⟨ret_int ?_, rfl⟩
    unfold cmpI
    repeat' split
    all_goals omega

theorem or_two (x y : Int) (b : Nat) (w : World) (h0 : w.cell? ⟨b, 0, none⟩ = some (.int .i64 x)) (h1 : w.cell? ⟨b, 1, none⟩ = some (.int .i64 y)) :
    Calls Try.prog 51 #[.slice (some ⟨b, 0, none⟩) 2 2] w fun e w' => e = .returned (.int .i64 (if x = 0 then y else x)) ∧ w' = w := by
  by_cases hx : x = 0
  · subst hx
    rw [if_pos rfl]
    by_cases hy : y = 0
    · subst hy
      go_enter Try.func51, Try.ntmps51
      go_wp2
      refine wp_loop_rounds 3 ?_
      rw [rounds_succ]
      go_wp2
      rw [rounds_succ]
      go_wp2
      rw [rounds_succ]
      go_wp2
      go_ret
      exact ⟨rfl, rfl⟩
    · have ey : (y != 0) = true := by simp [hy]
      go_enter Try.func51, Try.ntmps51
      go_wp2
      refine wp_loop_rounds 2 ?_
      rw [rounds_succ]
      go_wp2
      rw [rounds_succ]
      go_wp2
      go_ret
      exact ⟨rfl, rfl⟩
  · have ex : (x != 0) = true := by simp [hx]
    rw [if_neg hx]
    go_enter Try.func51, Try.ntmps51
    go_wp2
    refine wp_loop_rounds 1 ?_
    rw [rounds_succ]
    go_wp2
    go_ret
    exact ⟨rfl, rfl⟩

theorem or_three (x y z : Int) (hz : Hid ((if x = 0 then y else x) = z)) (b : Nat) (w : World) (h0 : w.cell? ⟨b, 0, none⟩ = some (.int .i64 x)) (h1 : w.cell? ⟨b, 1, none⟩ = some (.int .i64 y)) :
    Calls Try.prog 51 #[.slice (some ⟨b, 0, none⟩) 2 2] w fun e w' => e = .returned (.int .i64 z) ∧ w' = w := by
  have h := or_two x y b w h0 h1
  rw [hz.out] at h
  exact h
/-- bytes as the entry reads them. -/
theorem u8_lt {x y : Int} (hx : (Lit.int .u8 x).wf = true) (hy : (Lit.int .u8 y).wf = true) : UInt8.ofNat x.toNat < UInt8.ofNat y.toNat ↔ x < y := by
  have h1 := bounds_u8 hx
  have h2 := bounds_u8 hy
  rw [UInt8.lt_iff_toNat_lt, UInt8.toNat_ofNat', UInt8.toNat_ofNat', Nat.mod_eq_of_lt (by omega), Nat.mod_eq_of_lt (by omega)]
  omega
theorem cmpB_eq : ∀ (l m : List Int), (∀ z ∈ l, (Lit.int .u8 z).wf = true) → (∀ z ∈ m, (Lit.int .u8 z).wf = true) → Lib.compareBytes (Lib.bytesOf l) (Lib.bytesOf m) = cmpL l m
  | [], [], _, _ => rfl
  | [], _ :: _, _, _ => rfl
  | _ :: _, [], _, _ => rfl
  | x :: l, y :: m, hl, hm => by
    have e1 := u8_lt (hl x (by simp)) (hm y (by simp))
    have e2 := u8_lt (hm y (by simp)) (hl x (by simp))
    have ih := cmpB_eq l m (fun z hz => hl z (by simp [hz])) (fun z hz => hm z (by simp [hz]))
    show (if UInt8.ofNat x.toNat < UInt8.ofNat y.toNat then (-1 : Int) else if UInt8.ofNat y.toNat < UInt8.ofNat x.toNat then 1 else Lib.compareBytes (Lib.bytesOf l) (Lib.bytesOf m)) = cmpL (x :: l) (y :: m)
    unfold cmpL
    by_cases h1 : x < y
    · rw [if_pos (e1.2 h1), if_pos h1]
    · by_cases h2 : y < x
      · rw [if_neg (fun h => h1 (e1.1 h)), if_pos (e2.2 h2), if_neg h1, if_pos h2]
      · rw [if_neg (fun h => h1 (e1.1 h)), if_neg (fun h => h2 (e2.1 h)), if_neg h1, if_neg h2, ih]

theorem run_bytes {w : World} {b o c : Nat} {l : List Int} (hl : l.length = 32) (h : w.rangeAt b o (l.map (Value.int .u8))) : (Extern.Bytes.bytesOf (.slice (some ⟨b, o, none⟩) 32 c)).run Try.prog w = .ok ⟨(Lib.bytesOf l).toArray⟩ w := by
  have h1 := Lib.run_loadBytesX (P := Try.prog) w l ⟨b, o, none⟩ .empty (fun j x hj => by
    rw [Addr.add_mid]
    exact h j _ (by rw [List.getElem?_map, hj]; rfl))
  rw [hl] at h1
  show (Extern.Bytes.loadBytes ⟨b, o, none⟩ 32 .empty).run Try.prog w = _
  rw [h1]
  simp
theorem bcmp_any (b1 o1 c1 b2 o2 c2 : Nat) (l m : List Int) (w : World) (hl : IsH l) (hm : IsH m) (h1 : w.rangeAt b1 o1 (l.map (Value.int .u8))) (h2 : w.rangeAt b2 o2 (m.map (Value.int .u8))) :
    Calls Try.prog 53 #[.slice (some ⟨b1, o1, none⟩) 32 c1, .slice (some ⟨b2, o2, none⟩) 32 c2] w fun e w' => e = .returned (.int .i64 (cmpL l m)) ∧ w' = w := by
  have hr : (Extern.BytealgCompare.compare #[.slice (some ⟨b1, o1, none⟩) 32 c1, .slice (some ⟨b2, o2, none⟩) 32 c2]).run Try.prog w = .ok (.int .i64 (cmpL l m)) w := by
    have e1 := run_bytes (c := c1) hl.1 h1
    have e2 := run_bytes (c := c2) hm.1 h2
    change Sem.run Try.prog (do pure (goInt (Extern.BytealgCompare.cmp (← Extern.Bytes.bytesOf (.slice (some ⟨b1, o1, none⟩) 32 c1)) (← Extern.Bytes.bytesOf (.slice (some ⟨b2, o2, none⟩) 32 c2))))) w = _
    simp only [Sem.run_bind, e1, e2, Sem.run_pure, Result.andThen_ok]
    rw [Lib.cmp_eq]
    show Result.ok (Value.int .i64 (Lib.compareBytes (Lib.bytesOf l).toArray.toList (Lib.bytesOf m).toArray.toList)) w = _
    rw [List.toList_toArray, List.toList_toArray, cmpB_eq l m hl.2 hm.2]
  have HR := Lib.hid hr
  clear hr h1 h2
  go_enter Try.func53, Try.ntmps53
  go_wp2
  rw [run_callFunc_extern Try.func60 (by kernel_rfl) (by kernel_rfl) (by kernel_rfl) (e := Extern.BytealgCompare.compare) (by kernel_rfl), HR.out]
  simp only [Result.andThen]
  rw [Oper.upon_value]
  go_wp2
  go_ret
  exact ⟨rfl, rfl⟩
theorem cmpK_or (a b : K) : (if cmpI a.1 b.1 = 0 then cmpL a.2 b.2 else cmpI a.1 b.1) = cmpK a b := by
  unfold cmpI cmpK
  by_cases h1 : a.1 < b.1
  · simp [h1]
  · by_cases h2 : b.1 < a.1
    · simp [h1, h2]
    · simp [h1, h2]

theorem kinfo : (Try.prog.info? 26).map (·.size) = some 33 := by kernel_rfl
set_option maxHeartbeats 1000000 in
theorem kcmp_any (a b : K) (ha : IsK a) (hb : IsK b) (w : World) :
    Calls Try.prog 39 #[.agg (kcells a).toArray, .agg (kcells b).toArray] w fun e w' => e = .returned (.int .i64 (cmpK a b)) ∧ Lay w w' := by
  obtain ⟨ca, hca⟩ : ∃ ca, (kcells a).toArray = ca := ⟨_, rfl⟩
  obtain ⟨cb, hcb⟩ : ∃ cb, (kcells b).toArray = cb := ⟨_, rfl⟩
  rw [hca, hcb]
  obtain ⟨W, hW⟩ : ∃ W, W = (w.alloc (.cells ca 26)).alloc (.cells cb 26) := ⟨_, rfl⟩
  have hLW : Lay w W := by rw [hW]; exact ((Lay.refl w).alloc _).alloc _
  have b1 : Blk W w.heap.size 26 ca := by rw [hW]; exact (Blk.new w 26 ca).alloc _
  have b2 : Blk W (w.heap.size + 1) 26 cb := by rw [hW]; simpa using Blk.new (w.alloc (.cells ca 26)) 26 cb
  have c1 : W.cell? ⟨w.heap.size, 0, none⟩ = some (.int .u64 a.1) := (b1.cell 0).trans (by rw [← hca]; rfl)
  have c2 : W.cell? ⟨w.heap.size + 1, 0, none⟩ = some (.int .u64 b.1) := (b2.cell 0).trans (by rw [← hcb]; rfl)
  have r1 : W.rangeAt w.heap.size 1 (a.2.map (Value.int .u8)) := range_sub 1 b1.range (fun j v hv => by rw [← hca, Nat.add_comm]; exact hv)
  have r2 : W.rangeAt (w.heap.size + 1) 1 (b.2.map (Value.int .u8)) := range_sub 1 b2.range (fun j v hv => by rw [← hcb, Nat.add_comm]; exact hv)
  have HB := Lib.hid (bcmp_any w.heap.size 1 32 (w.heap.size + 1) 1 32 a.2 b.2 W.drew ha.2 hb.2 r1 r2)
  have HL := Lib.hid hLW
  have HE := Lib.hid (cmpK_or a b)
  obtain ⟨x, hx⟩ : ∃ x, cmpI a.1 b.1 = x := ⟨_, rfl⟩
  obtain ⟨y, hy⟩ : ∃ y, cmpL a.2 b.2 = y := ⟨_, rfl⟩
  have HC := Lib.hid (cmp_any a.1 b.1 W.drew)
  rw [hx] at HC HE
  rw [hy] at HB HE
  obtain ⟨ba, hba⟩ : ∃ ba, ba = w.heap.size := ⟨_, rfl⟩
  rw [← hba] at c1 c2 HB
  have hl1 := b1.lt
  have hl2 := b2.lt
  rw [← hba] at hl1 hl2
  clear hLW b1 b2 r1 r2 hx hy hca hcb ha hb
  go_enter Try.func39, Try.ntmps39
  go_wp2_with fail
  rw [← hW, ← hba]
  clear hW hba
  go_region_held3 (fun w' => w'.cell? ⟨ba, 0, none⟩ = some (.int .u64 a.1) ∧ w'.cell? ⟨ba + 1, 0, none⟩ = some (.int .u64 b.1))
    (first | go_keep)
    (first
    | (go_at_call 52; refine HC.out.mono ?_; rintro e w' ⟨rfl, rfl⟩)
    | (go_at_call 53; refine HB.out.mono ?_; rintro e w' ⟨rfl, rfl⟩)
    | (go_at_call 51; refine (or_three x y _ HE _ _ (by simp) (by simp)).mono ?_; rintro e w' ⟨rfl, rfl⟩))
  all_goals
    go_wp2_with fail
    go_ret
    exact ⟨rfl, (HL.out.drew).alloc _⟩
end Go.Proofs.Ythjgmnafbikihaa
