/-
  Fetch: two keys, two wants: which is ahead.
-/
import Derived.Test.YthjgmnafbikihaaFb
import Derived.Test.YthjgmnafbikihaaBle
set_option linter.unusedVariables false
set_option linter.unusedSimpArgs false
namespace Go.Proofs.Ythjgmnafbikihaa
open Go.RowKit

theorem lay_store {w a b : World} {k : Nat} (h : Lay w a) (hg : a.grownBy b (some k)) (hd : b.drawn = a.drawn) (hk : w.heap.size ≤ k) : Lay w b :=
  ⟨h.below.grown hg h.below.size (fun j e => by injection e with e; omega), by rw [hd]; exact h.drawn⟩

theorem less_any (a b : K) (ha : IsK a) (hb : IsK b) (w : World) :
    Calls Try.prog 33 #[.agg (kcells a).toArray, .agg (kcells b).toArray] w fun e w' => e = .returned (.bool (lessK a b)) ∧ Lay w w' := by
  have sa : (kcells a).toArray.size = 33 := by simp [kcells_length ha]
  have sb : (kcells b).toArray.size = 33 := by simp [kcells_length hb]
  have HC : Hid (∀ W, Calls Try.prog 39 #[.agg (kcells a).toArray, .agg (kcells b).toArray] W fun e w' => e = .returned (.int .i64 (cmpK a b)) ∧ Lay W w') := fun W => kcmp_any a b ha hb W
  have HE : Hid (lessK a b = decide (cmpK a b < 0)) := (rfl : lessK a b = _)
  obtain ⟨ca, hca⟩ : ∃ ca, (kcells a).toArray = ca := ⟨_, rfl⟩
  obtain ⟨cb, hcb⟩ : ∃ cb, (kcells b).toArray = cb := ⟨_, rfl⟩
  obtain ⟨z, hz⟩ : ∃ z, cmpK a b = z := ⟨_, rfl⟩
  rw [hca] at sa HC ⊢
  rw [hcb] at sb HC ⊢
  rw [hz] at HC HE
  have hi1 : (Try.prog.info? 26).map (·.size) = some ca.size := by rw [kinfo, sa]
  have hi2 : (Try.prog.info? 26).map (·.size) = some cb.size := by rw [kinfo, sb]
  have r1 : Hid (((w.alloc (.cells ca 26)).alloc (.cells cb 26)).rangeAt w.heap.size 0 ca.toList) := ((Blk.new w 26 ca).alloc _).range
  have r2 : Hid (((w.alloc (.cells ca 26)).alloc (.cells cb 26)).rangeAt (w.heap.size + 1) 0 cb.toList) := by
    have := (Blk.new (w.alloc (.cells ca 26)) 26 cb).range
    rw [World.size_alloc] at this
    exact this
  clear hca hcb hz sa sb ha hb
  go_enter Try.func33, Try.ntmps33
  go_wp2_with (first
    | (refine wpList_load_range 26 (.tmp 2) w.heap.size 0 ca _ rfl rfl rfl Try.underlying26 rfl hi1 r1.out ?_)
    | (refine wpList_load_range 26 (.tmp 3) (w.heap.size + 1) 0 cb _ rfl rfl rfl Try.underlying26 rfl hi2 r2.out ?_))
  refine (HC.out _).mono ?_
  rintro e w' ⟨rfl, hL⟩
  have HL := Lib.hid ((((Lay.refl w).alloc _).alloc _).trans hL)
  clear hL
  go_wp2_with fail
  go_ret
  exact ⟨by rw [HE.out]; rfl, HL.out⟩
end Go.Proofs.Ythjgmnafbikihaa
