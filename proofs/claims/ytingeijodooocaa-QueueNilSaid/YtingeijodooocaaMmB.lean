/- i &^ 1, i ^ 1, i & 1, i | 1 of numbers that are not negative (general). -/
import Derived.Laws.BitsAllLaws
namespace Go.Proofs.Ytingeijodooocaa
theorem ofI64 (x : Nat) (h : x < 9223372036854775808) : (BitVec.ofInt 64 (x : Int)).toNat = x := by
  rw [BitVec.toNat_ofInt]
  omega
theorem wrapN (x : Nat) (h : x < 9223372036854775808) : IntKind.i64.wrap (x : Int) = (x : Int) := by
  simp [IntKind.wrap, IntKind.bits, IntKind.signed]
  split <;> omega
theorem nat_ext_bit {x y : Nat} (h0 : x % 2 = y % 2) (h1 : x / 2 = y / 2) : x = y := by omega
theorem nat_xor1 (x : Nat) : x ^^^ 1 = if x % 2 = 0 then x + 1 else x - 1 := by
  have e : (x ^^^ 1) / 2 = x / 2 := by
    apply Nat.eq_of_testBit_eq
    intro i
    rw [← Nat.testBit_succ, Nat.testBit_xor, ← Nat.testBit_succ, Nat.testBit_succ 1, show 1 / 2 = 0 by decide]
    simp
  have e2 : (x ^^^ 1) % 2 = (x % 2 + 1) % 2 := by
    have h := Nat.testBit_xor x 1 0
    rw [Nat.testBit_zero, Nat.testBit_zero, Nat.testBit_zero] at h
    rcases Nat.mod_two_eq_zero_or_one x with q | q <;> rcases Nat.mod_two_eq_zero_or_one (x ^^^ 1) with r | r <;> rw [q, r] at h <;> simp at h <;> omega
  split <;> omega
theorem nat_or1 (x : Nat) : x ||| 1 = 2 * (x / 2) + 1 := by
  have e : (x ||| 1) / 2 = x / 2 := by
    apply Nat.eq_of_testBit_eq
    intro i
    rw [← Nat.testBit_succ, Nat.testBit_or, ← Nat.testBit_succ, Nat.testBit_succ 1, show 1 / 2 = 0 by decide]
    simp
  have e2 : (x ||| 1) % 2 = 1 := by
    have h := Nat.testBit_or x 1 0
    rw [Nat.testBit_zero, Nat.testBit_zero, Nat.testBit_zero] at h
    rcases Nat.mod_two_eq_zero_or_one (x ||| 1) with r | r
    · rw [r] at h; simp at h
    · exact r
  omega
theorem nat_andN1 (x : Nat) (h : x < 9223372036854775808) : x &&& 18446744073709551614 = 2 * (x / 2) := by
  have e : (x &&& 18446744073709551614) / 2 = x / 2 := by
    apply Nat.eq_of_testBit_eq
    intro i
    rw [← Nat.testBit_succ, Nat.testBit_and, ← Nat.testBit_succ, Nat.testBit_succ 18446744073709551614, show 18446744073709551614 / 2 = 2 ^ 63 - 1 by decide, Nat.testBit_two_pow_sub_one]
    by_cases hi : i < 63
    · simp [hi]
    · have : x.testBit (i + 1) = false := Nat.testBit_lt_two_pow (Nat.lt_of_lt_of_le h (by
        have : 2 ^ 63 ≤ 2 ^ (i + 1) := Nat.pow_le_pow_right (by omega) (by omega)
        simpa using this))
      simp [hi, this]
  have e2 : (x &&& 18446744073709551614) % 2 = 0 := by
    have h := Nat.testBit_and x 18446744073709551614 0
    rw [Nat.testBit_zero, Nat.testBit_zero, Nat.testBit_zero, show 18446744073709551614 % 2 = 0 by decide] at h
    rcases Nat.mod_two_eq_zero_or_one (x &&& 18446744073709551614) with r | r
    · exact r
    · rw [r] at h; simp at h
  omega
theorem b_andNot (x : Nat) (h : x < 9223372036854775808) : bits .andNot .i64 (x : Int) 1 = ((2 * (x / 2) : Nat) : Int) := by
  show IntKind.i64.wrap ((BitVec.ofInt 64 (x : Int) &&& ~~~BitVec.ofInt 64 1).toNat : Int) = _
  have h1 : (BitVec.ofInt 64 1).toNat = 1 := by decide
  rw [BitVec.toNat_and, BitVec.toNat_not, ofI64 x h, h1, show 2 ^ 64 - 1 - 1 = 18446744073709551614 by decide, nat_andN1 x h]
  exact wrapN _ (by omega)
theorem b_xor (x : Nat) (h : x < 9223372036854775807) : bits .xor .i64 (x : Int) 1 = ((if x % 2 = 0 then x + 1 else x - 1 : Nat) : Int) := by
  show IntKind.i64.wrap ((BitVec.ofInt 64 (x : Int) ^^^ BitVec.ofInt 64 1).toNat : Int) = _
  have h1 : (BitVec.ofInt 64 1).toNat = 1 := by decide
  rw [BitVec.toNat_xor, ofI64 x (by omega), h1, nat_xor1]
  exact wrapN _ (by split <;> omega)
theorem b_or (x : Nat) (h : x < 9223372036854775807) : bits .or .i64 (x : Int) 1 = ((2 * (x / 2) + 1 : Nat) : Int) := by
  show IntKind.i64.wrap ((BitVec.ofInt 64 (x : Int) ||| BitVec.ofInt 64 1).toNat : Int) = _
  have h1 : (BitVec.ofInt 64 1).toNat = 1 := by decide
  rw [BitVec.toNat_or, ofI64 x (by omega), h1, nat_or1]
  exact wrapN _ (by omega)
theorem b_and (x : Nat) (h : x < 9223372036854775808) : bits .and .i64 (x : Int) 1 = ((x % 2 : Nat) : Int) := by
  show IntKind.i64.wrap ((BitVec.ofInt 64 (x : Int) &&& BitVec.ofInt 64 1).toNat : Int) = _
  have h1 : (BitVec.ofInt 64 1).toNat = 1 := by decide
  rw [BitVec.toNat_and, ofI64 x h, h1, Nat.and_one_is_mod]
  exact wrapN _ (by omega)
end Go.Proofs.Ytingeijodooocaa
