/-
  Dice, plain: what a state gives tells the state: 'vl' is injective on the numbers of 64 bits.
-/
import Derived.Test.YtggkndmmbkejgaaDa
import Derived.Laws.Bits64
namespace Go.Proofs.Ytggkndmmbkejgaa

theorem tb_div (x k i : Nat) : (x / 2 ^ k).testBit i = x.testBit (k + i) := by
  rw [← Nat.shiftRight_eq_div_pow, Nat.testBit_shiftRight]

/-- x xor x >> k tells x. -/
theorem xs_inj (k : Nat) (hk : 0 < k) (x y : Nat) (hx : x < 2 ^ 64) (hy : y < 2 ^ 64) (h : x ^^^ x / 2 ^ k = y ^^^ y / 2 ^ k) : x = y := by
  have key : ∀ n i : Nat, 64 ≤ i + n → x.testBit i = y.testBit i := by
    intro n
    induction n with
    | zero =>
      intro i hi
      rw [Nat.testBit_lt_two_pow (Nat.lt_of_lt_of_le hx (Nat.pow_le_pow_right (by omega) (by omega))), Nat.testBit_lt_two_pow (Nat.lt_of_lt_of_le hy (Nat.pow_le_pow_right (by omega) (by omega)))]
    | succ n ih =>
      intro i hi
      have h1 : (x ^^^ x / 2 ^ k).testBit i = (y ^^^ y / 2 ^ k).testBit i := by rw [h]
      rw [Nat.testBit_xor, Nat.testBit_xor, tb_div, tb_div, ih (k + i) (by omega)] at h1
      revert h1
      cases x.testBit i <;> cases y.testBit i <;> cases y.testBit (k + i) <;> simp
  exact Nat.eq_of_testBit_eq fun i => key 64 i (by omega)

theorem mul_inj (c d x y : Nat) (hcd : c * d % 18446744073709551616 = 1) (hx : x < 18446744073709551616) (hy : y < 18446744073709551616)
    (h : x * c % 18446744073709551616 = y * c % 18446744073709551616) : x = y := by
  have key : ∀ z : Nat, z < 18446744073709551616 → (z * c % 18446744073709551616) * d % 18446744073709551616 = z := by
    intro z hz
    rw [Nat.mod_mul_mod, Nat.mul_assoc, Nat.mul_mod, hcd, Nat.mul_one, Nat.mod_mod, Nat.mod_eq_of_lt hz]
  rw [← key x hx, h, key y hy]

def xn (k x : Nat) : Nat := x ^^^ x / 2 ^ k
theorem xn_lt (k x : Nat) (hx : x < 2 ^ 64) : xn k x < 2 ^ 64 := Nat.xor_lt_two_pow hx (Nat.lt_of_le_of_lt (Nat.div_le_self _ _) hx)

theorem m1_nat (x : Nat) (hx : x < 18446744073709551616) : m1 (x : Int) = ((xn 30 x * 13787848793156543929 % 18446744073709551616 : Nat) : Int) := mixStep_u64 x 1073741824 13787848793156543929 hx
theorem m2_nat (x : Nat) (hx : x < 18446744073709551616) : m2 (x : Int) = ((xn 27 x * 10723151780598845931 % 18446744073709551616 : Nat) : Int) := mixStep_u64 x 134217728 10723151780598845931 hx
theorem m3_nat (x : Nat) (hx : x < 18446744073709551616) : m3 (x : Int) = ((xn 31 x : Nat) : Int) := xorShift_u64 x 2147483648 hx

theorem m1_inj (x y : Nat) (hx : x < 18446744073709551616) (hy : y < 18446744073709551616) (h : m1 (x : Int) = m1 (y : Int)) : x = y := by
  rw [m1_nat x hx, m1_nat y hy] at h
  exact xs_inj 30 (by decide) x y hx hy (mul_inj 13787848793156543929 10871156337175269513 _ _ (by decide +kernel) (xn_lt 30 x hx) (xn_lt 30 y hy) (Int.ofNat.inj h))
theorem m2_inj (x y : Nat) (hx : x < 18446744073709551616) (hy : y < 18446744073709551616) (h : m2 (x : Int) = m2 (y : Int)) : x = y := by
  rw [m2_nat x hx, m2_nat y hy] at h
  exact xs_inj 27 (by decide) x y hx hy (mul_inj 10723151780598845931 3573116690164977347 _ _ (by decide +kernel) (xn_lt 27 x hx) (xn_lt 27 y hy) (Int.ofNat.inj h))
theorem m3_inj (x y : Nat) (hx : x < 18446744073709551616) (hy : y < 18446744073709551616) (h : m3 (x : Int) = m3 (y : Int)) : x = y := by
  rw [m3_nat x hx, m3_nat y hy] at h
  exact xs_inj 31 (by decide) x y hx hy (Int.ofNat.inj h)

theorem u64_nat (X : Int) : ∃ n : Nat, IntKind.u64.wrap X = (n : Int) ∧ n < 18446744073709551616 := by
  have h0 := wrap_nn X
  have h1 := wrap_lt X
  exact ⟨(IntKind.u64.wrap X).toNat, (Int.toNat_of_nonneg h0).symm, by omega⟩

theorem vl_inj (a b : Int) (ha : 0 ≤ a) (ha' : a < 18446744073709551616) (hb : 0 ≤ b) (hb' : b < 18446744073709551616) (h : vl a = vl b) : a = b := by
  unfold vl at h
  obtain ⟨A1, e1, l1⟩ := u64_nat (a + 11400714819323198485)
  obtain ⟨B1, f1, k1⟩ := u64_nat (b + 11400714819323198485)
  have e1' : nx a = A1 := e1
  have f1' : nx b = B1 := f1
  obtain ⟨A2, e2, l2⟩ : ∃ n : Nat, m1 (A1 : Int) = (n : Int) ∧ n < 18446744073709551616 := u64_nat _
  obtain ⟨B2, f2, k2⟩ : ∃ n : Nat, m1 (B1 : Int) = (n : Int) ∧ n < 18446744073709551616 := u64_nat _
  obtain ⟨A3, e3, l3⟩ : ∃ n : Nat, m2 (A2 : Int) = (n : Int) ∧ n < 18446744073709551616 := u64_nat _
  obtain ⟨B3, f3, k3⟩ : ∃ n : Nat, m2 (B2 : Int) = (n : Int) ∧ n < 18446744073709551616 := u64_nat _
  rw [e1', f1', e2, f2, e3, f3] at h
  have g3 := m3_inj A3 B3 l3 k3 h
  have g2 := m2_inj A2 B2 l2 k2 (by rw [e3, f3, g3])
  have g1 := m1_inj A1 B1 l1 k1 (by rw [e2, f2, g2])
  rw [IntKind.wrap_u64] at e1 f1
  omega
end Go.Proofs.Ytggkndmmbkejgaa
