/-
  Net, plain: the last six bits of a small number are somebody who may post.
-/
import Derived.Test.YtodmhikmjcajnaaNb
import Derived.Laws.BitsAllLaws
import Derived.Laws.BitsLemmas
namespace Go.Proofs.Ytodmhikmjcajnaa

theorem ofInt_i64 (a : Nat) (ha : a < 9223372036854775808) : (BitVec.ofInt 64 (a : Int)).toNat = a := by
  rw [BitVec.ofInt_natCast, BitVec.toNat_ofNat]; exact Nat.mod_eq_of_lt (by omega)
theorem i64_and_nat (a b : Nat) (ha : a < 9223372036854775808) (hb : b < 9223372036854775808) : bits .and .i64 (a : Int) (b : Int) = ((a &&& b : Nat) : Int) := by
  have hx : a &&& b < 2 ^ 63 := Nat.and_lt_two_pow _ (by omega)
  show IntKind.i64.wrap ((BitVec.ofInt 64 (a : Int) &&& BitVec.ofInt 64 (b : Int)).toNat : Int) = _
  rw [BitVec.toNat_and, ofInt_i64 a ha, ofInt_i64 b hb, IntKind.wrap_i64]
  omega
theorem and63 (a : Nat) (ha : a < 1000) : ∃ r : Nat, bits .and .i64 (a : Int) 63 = (r : Int) ∧ r < 64 := by
  have h := i64_and_nat a 63 (by omega) (by omega)
  have e : a &&& 63 = a % 64 := Nat.and_two_pow_sub_one_eq_mod a 6
  exact ⟨a % 64, by rw [← e]; exact h, Nat.mod_lt _ (by omega)⟩
theorem node_nat (r : Nat) (h : r < 64) : (node (r : Int) && node 0) = true := by simp [node]; omega
end Go.Proofs.Ytodmhikmjcajnaa
