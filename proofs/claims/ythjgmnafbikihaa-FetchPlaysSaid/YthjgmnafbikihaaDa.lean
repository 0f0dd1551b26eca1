import Derived.Test.YthjgmnafbikihaaRows
import Derived.WalkKit
import Derived.ProofKit
import Derived.Below
import Derived.Outline
import Derived.Deep.QuietTactic
import Derived.BigQuiet
set_option linter.unusedVariables false
set_option linter.unusedSimpArgs false
namespace Go.Proofs.Ythjgmnafbikihaa
open Go.RowKit

def nx (s : Int) : Int := IntKind.u64.wrap (s + 11400714819323198485)
def m1 (x : Int) : Int := IntKind.u64.wrap (bits BinOp.xor IntKind.u64 x (x / 1073741824) * 13787848793156543929)
def m2 (x : Int) : Int := IntKind.u64.wrap (bits BinOp.xor IntKind.u64 x (x / 134217728) * 10723151780598845931)
def m3 (x : Int) : Int := bits BinOp.xor IntKind.u64 x (x / 2147483648)
def vl (s : Int) : Int := m3 (m2 (m1 (nx s)))

theorem ret_int {k : IntKind} {a b : Int} (h : a = b) : Ending.returned (.int k a) = .returned (.int k b) := by rw [h]

theorem next_any (b : Nat) (s : Int) (w : World) (hc : w.cell? ⟨b, 0, none⟩ = some (.int .u64 s)) (hf : w.frozen? ⟨b, 0, none⟩ = false) :
    Calls Try.prog 29 #[.pointer (some ⟨b, 0, none⟩)] w fun e w' => e = .returned (.int .u64 (vl s)) ∧ w' = w.setCell ⟨b, 0, none⟩ (.int .u64 (nx s)) := by
  go_enter Try.func29, Try.ntmps29
  go_wp2
  go_ret
  exact ⟨ret_int (by simp only [vl, m3, m2, m1, nx]), by simp only [nx]⟩

theorem next_nil (w : World) :
    Calls Try.prog 29 #[.pointer none] w fun e w' => e = .returned (.int .u64 0) ∧ w' = w := by
  go_enter Try.func29, Try.ntmps29
  go_wp2
  go_ret
  exact ⟨rfl, rfl⟩

theorem new_any (s : Int) (w : World) :
    Calls Try.prog 10 #[.int .u64 s] w fun e w' => e = .returned (.pointer (some ⟨w.heap.size, 0, none⟩)) ∧ w' = w.alloc (.cells #[.int .u64 s] 67) := by
  go_enter Try.func10, Try.ntmps10
  go_wp2
  go_ret
  exact ⟨rfl, rfl⟩

theorem wrap_nn (X : Int) : 0 ≤ IntKind.u64.wrap X := by rw [IntKind.wrap_u64]; exact Int.emod_nonneg _ (by decide)
theorem wrap_lt (X : Int) : IntKind.u64.wrap X < 18446744073709551616 := by rw [IntKind.wrap_u64]; exact Int.emod_lt_of_pos _ (by decide)
theorem wrap_in (X : Int) (h0 : 0 ≤ X) (h1 : X < 18446744073709551616) : IntKind.u64.wrap X = X := by rw [IntKind.wrap_u64]; exact Int.emod_eq_of_lt h0 h1
theorem shr_as (X c : Int) (hc : 0 < c) : IntKind.u64.wrap ((IntKind.u64.wrap X).tdiv c) = IntKind.u64.wrap X / c := by
  have h0 := wrap_nn X
  have h1 := wrap_lt X
  rw [Int.tdiv_eq_ediv_of_nonneg h0]
  exact wrap_in _ (Int.ediv_nonneg h0 (by omega)) (Int.lt_of_le_of_lt (Int.ediv_le_self _ h0) h1)
theorem rnext_any (s : Int) (w : World) :
    Calls Try.prog 35 #[.int .u64 s] w fun e w' => e = .returned (.tuple #[.int .u64 (nx s), .int .u64 (vl s)]) ∧ w' = w := by
  go_enter Try.func35, Try.ntmps35
  go_wp2
  go_ret2
  refine ⟨?_, rfl⟩
  have e : ∀ a b c d : Int, a = c → b = d → Ending.returned (.tuple #[.int .u64 a, .int .u64 b]) = .returned (.tuple #[.int .u64 c, .int .u64 d]) := by rintro a b _ _ rfl rfl; rfl
  refine e _ _ _ _ (by simp only [nx]) ?_
  simp only [vl, m3, m2, m1, nx]
  rw [shr_as _ 1073741824 (by decide), shr_as _ 134217728 (by decide), shr_as _ 2147483648 (by decide)]
theorem vl_nn (s : Int) : 0 ≤ vl s := wrap_nn _
theorem vl_lt (s : Int) : vl s < 18446744073709551616 := wrap_lt _

theorem bel_lo (n : Int) (w : World) (hn : n < 2) (p : Value) :
    Calls Try.prog 23 #[p, .int .i64 n] w fun e w' => e = .returned (.int .i64 0) ∧ w' = w := by
  go_enter Try.func23, Try.ntmps23
  go_wp2
  go_ret
  exact ⟨rfl, rfl⟩

theorem bel_hi (b : Nat) (s n : Int) (w : World) (hn : 2 ≤ n) (hm : n ≤ 9223372036854775807) (hc : w.cell? ⟨b, 0, none⟩ = some (.int .u64 s)) (hf : w.frozen? ⟨b, 0, none⟩ = false) :
    Calls Try.prog 23 #[.pointer (some ⟨b, 0, none⟩), .int .i64 n] w fun e w' => e = .returned (.int .i64 (vl s % n)) ∧ w' = w.setCell ⟨b, 0, none⟩ (.int .u64 (nx s)) := by
  have h0 := vl_nn s
  have h2 : 0 ≤ vl s % n := Int.emod_nonneg _ (by omega)
  have h3 : vl s % n < n := Int.emod_lt_of_pos _ (by omega)
  go_enter Try.func23, Try.ntmps23
  go_wp2_with (go_at_call 29; refine (next_any _ _ _ hc hf).mono ?_; rintro e w' ⟨rfl, rfl⟩)
  go_ret
  exact ⟨rfl, rfl⟩

theorem rbel_lo (s n : Int) (w : World) (hn : n < 2) :
    Calls Try.prog 28 #[.int .u64 s, .int .i64 n] w fun e w' => e = .returned (.tuple #[.int .u64 s, .int .i64 0]) ∧ w' = w := by
  go_enter Try.func28, Try.ntmps28
  go_wp2
  go_ret2
  exact ⟨rfl, rfl⟩

theorem rbel_hi (s n : Int) (w : World) (hn : 2 ≤ n) (hm : n ≤ 9223372036854775807) :
    Calls Try.prog 28 #[.int .u64 s, .int .i64 n] w fun e w' => e = .returned (.tuple #[.int .u64 (nx s), .int .i64 (vl s % n)]) ∧ ∃ q, w' = w.drewN q := by
  have h0 := vl_nn s
  have h2 : 0 ≤ vl s % n := Int.emod_nonneg _ (by omega)
  have h3 : vl s % n < n := Int.emod_lt_of_pos _ (by omega)
  go_enter Try.func28, Try.ntmps28
  go_wp2_with (go_at_call 35; refine (rnext_any _ _).mono ?_; rintro e w' ⟨rfl, rfl⟩)
  go_quiet (fail)
  go_wp2
  go_ret2
  exact ⟨rfl, _, rfl⟩
end Go.Proofs.Ythjgmnafbikihaa
