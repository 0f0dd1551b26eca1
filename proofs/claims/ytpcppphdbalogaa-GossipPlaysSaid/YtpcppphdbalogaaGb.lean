/-
  Gossip: one auditor's block, who it is made, and the two closures.
-/
import Derived.Test.YtpcppphdbalogaaGa
import Derived.Test.YtpcppphdbalogaaDc
namespace Go.Proofs.Ytpcppphdbalogaa
open Go.RowKit Go.Maps

/-- the auditor's block. -/
def gosCells (me many fan : Int) (d m : Nat) : Array Value := #[.int .i64 me, .int .i64 many, .int .i64 fan, .pointer (some ⟨d, 0, none⟩), .map (some m)]

def newOk (me many fan : Int) : Prop := 1 ≤ many ∧ many ≤ 64 ∧ 0 ≤ me ∧ me < many ∧ 1 ≤ fan ∧ fan ≤ many

theorem gnew_ok (me many fan s : Int) (w : World) (h : newOk me many fan) :
    Calls Try.prog 8 #[.int .i64 me, .int .i64 many, .int .i64 fan, .int .u64 s] w fun e w' => e = .returned (.tuple #[.pointer (some ⟨w.heap.size + 2, 0, none⟩), .int .i64 0]) ∧
      w' = ((w.alloc (.cells #[.int .u64 s] 65)).alloc (.map #[] 0)).alloc (.cells (gosCells me many fan w.heap.size (w.heap.size + 1)) 57) := by
  obtain ⟨h1, h2, h3, h4, h5, h6⟩ := h
  have hmm := @run_makeMap Try.prog
  go_enter Try.func8, Try.ntmps8
  go_wp2_with (go_at_call 17; refine (new_any s _).mono ?_; rintro e w' ⟨rfl, rfl⟩)
  go_ret2
  exact ⟨by simp, by simp [gosCells]⟩

theorem gnew_bad (me many fan s : Int) (w : World) (h : ¬ newOk me many fan) :
    Calls Try.prog 8 #[.int .i64 me, .int .i64 many, .int .i64 fan, .int .u64 s] w fun e w' => e = .returned (.tuple #[.pointer none, .int .i64 1]) ∧ w' = w := by
  by_cases h1 : many < 1
  · go_enter Try.func8, Try.ntmps8
    go_wp2
    go_ret2
    exact ⟨rfl, rfl⟩
  by_cases h2 : 64 < many
  · go_enter Try.func8, Try.ntmps8
    go_wp2
    go_ret2
    exact ⟨rfl, rfl⟩
  by_cases h3 : me < 0
  · go_enter Try.func8, Try.ntmps8
    go_wp2
    go_ret2
    exact ⟨rfl, rfl⟩
  by_cases h4 : many ≤ me
  · go_enter Try.func8, Try.ntmps8
    go_wp2
    go_ret2
    exact ⟨rfl, rfl⟩
  by_cases h5 : fan < 1
  · go_enter Try.func8, Try.ntmps8
    go_wp2
    go_ret2
    exact ⟨rfl, rfl⟩
  have h6 : many < fan := by unfold newOk at h; omega
  go_enter Try.func8, Try.ntmps8
  go_wp2
  go_ret2
  exact ⟨rfl, rfl⟩

theorem may_all (k : Int) (w : World) : Calls Try.prog 20 #[.int .i64 k] w fun e w' => e = .returned (.bool true) ∧ w' = w := by
  go_enter Try.func20, Try.ntmps20
  go_wp2
  go_ret
  exact ⟨rfl, rfl⟩

theorem may_from (k f : Int) (b : Nat) (w : World) (hc : w.cell? ⟨b, 0, none⟩ = some (.int .i64 f)) : Calls Try.prog 23 #[.int .i64 k, .pointer (some ⟨b, 0, none⟩)] w fun e w' => e = .returned (.bool (k != f)) ∧ w' = w := by
  go_enter Try.func23, Try.ntmps23
  go_wp2
  go_ret
  exact ⟨rfl, rfl⟩
end Go.Proofs.Ytpcppphdbalogaa
