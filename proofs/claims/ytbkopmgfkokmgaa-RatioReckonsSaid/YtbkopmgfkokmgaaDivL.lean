/- The plain law of bits.Div64: how two words are divided by one, digit by digit. No program is in sight. -/
import Derived.Below
import Derived.WalkKit
import Derived.Lib.ItoaNum
import Derived.Laws.Bits64b
namespace Go.Proofs.Ytbkopmgfkokmgaa
open Go.RowKit
theorem wrapU (a : Int) : IntKind.u64.wrap a = a % 18446744073709551616 := by
  simp [IntKind.wrap, IntKind.bits, IntKind.signed]
theorem wrapU_in {a : Int} (h0 : 0 ≤ a) (h1 : a ≤ 18446744073709551615) : IntKind.u64.wrap a = a := by rw [wrapU]; omega
/-- What the first guess of a digit, and each lower one, is asked. -/
structure Digit (u y1 y0 e q r : Int) : Prop where
  q0 : 0 ≤ q
  q1 : q ≤ 8589934592
  r0 : 0 ≤ r
  r1 : r ≤ 4294967295
  eq : q * y1 + r = u
  ge : (u * 4294967296 + e) / (y1 * 4294967296 + y0) ≤ q
structure DigB (u y1 y0 e : Int) : Prop where
  hy1 : 2147483648 ≤ y1
  hy1' : y1 ≤ 4294967295
  hy0 : 0 ≤ y0
  hy0' : y0 ≤ 4294967295
  hu : 0 ≤ u
  huv : u < y1 * 4294967296 + y0
  he : 0 ≤ e
  he' : e ≤ 4294967295
theorem digit_start {u y1 y0 e : Int} (B : DigB u y1 y0 e) : Digit u y1 y0 e (u / y1) (u % y1) := by
  obtain ⟨hy1, hy1', hy0, hy0', hu, huv, he, he'⟩ := B
  have h1 := Int.emod_nonneg u (by omega : y1 ≠ 0)
  have h2 := Int.emod_lt_of_pos u (by omega : 0 < y1)
  have h3 : 0 ≤ u / y1 := Int.ediv_nonneg hu (by omega)
  have h4 : u / y1 ≤ 8589934592 := by
    have : u / y1 < 8589934593 := Int.ediv_lt_of_lt_mul (by omega) (by omega)
    omega
  refine ⟨h3, h4, h1, by omega, by rw [Int.mul_comm]; exact Int.mul_ediv_add_emod u y1, ?_⟩
  have hlt : u < (u / y1 + 1) * y1 := by
    have := Int.mul_ediv_add_emod u y1
    rw [Int.add_mul, Int.mul_comm (u / y1)]; omega
  have : (u * 4294967296 + e) / (y1 * 4294967296 + y0) < u / y1 + 1 := by
    apply Int.ediv_lt_of_lt_mul (by omega)
    have h5 : 0 ≤ (u / y1 + 1) * y0 := Int.mul_nonneg (by omega) hy0
    rw [Int.mul_add, ← Int.mul_assoc]
    omega
  omega
theorem digit_high {u y1 y0 e : Int} (B : DigB u y1 y0 e) {q r : Int} (h : Digit u y1 y0 e q r) (hq : 4294967296 ≤ q) : (u * 4294967296 + e) / (y1 * 4294967296 + y0) ≤ q - 1 := by
  obtain ⟨hy1, hy1', hy0, hy0', hu, huv, he, he'⟩ := B
  have : (u * 4294967296 + e) / (y1 * 4294967296 + y0) < 4294967296 := by
    apply Int.ediv_lt_of_lt_mul (by omega)
    omega
  omega
theorem digit_over {u y1 y0 e : Int} (B : DigB u y1 y0 e) {q r : Int} (h : Digit u y1 y0 e q r) (hq : 4294967296 * r + e < q * y0) : (u * 4294967296 + e) / (y1 * 4294967296 + y0) ≤ q - 1 := by
  obtain ⟨hy1, hy1', hy0, hy0', hu, huv, he, he'⟩ := B
  have : (u * 4294967296 + e) / (y1 * 4294967296 + y0) < q := by
    apply Int.ediv_lt_of_lt_mul (by omega)
    have := h.eq
    rw [Int.mul_add, ← Int.mul_assoc]
    omega
  omega
theorem digit_next {u y1 y0 e : Int} (B : DigB u y1 y0 e) {q r : Int} (h : Digit u y1 y0 e q r) (hg : (u * 4294967296 + e) / (y1 * 4294967296 + y0) ≤ q - 1) (hr : r + y1 ≤ 4294967295) : Digit u y1 y0 e (q - 1) (r + y1) := by
  obtain ⟨hy1, hy1', hy0, hy0', hu, huv, he, he'⟩ := B
  have h0 : 0 ≤ (u * 4294967296 + e) / (y1 * 4294967296 + y0) := Int.ediv_nonneg (by omega) (by omega)
  have := h.q1
  have := h.r0
  refine ⟨by omega, by omega, by omega, hr, ?_, hg⟩
  rw [Int.sub_mul, Int.one_mul]
  have := h.eq
  omega
/-- The guess is right where it is lowered beyond a digit. -/
theorem digit_break {u y1 y0 e : Int} (B : DigB u y1 y0 e) {q r : Int} (h : Digit u y1 y0 e q r) (hg : (u * 4294967296 + e) / (y1 * 4294967296 + y0) ≤ q - 1) (hr : 4294967296 ≤ r + y1) : q - 1 = (u * 4294967296 + e) / (y1 * 4294967296 + y0) := by
  obtain ⟨hy1, hy1', hy0, hy0', hu, huv, he, he'⟩ := B
  have h0 : 0 ≤ (u * 4294967296 + e) / (y1 * 4294967296 + y0) := Int.ediv_nonneg (by omega) (by omega)
  suffices q - 1 ≤ (u * 4294967296 + e) / (y1 * 4294967296 + y0) by omega
  apply Int.le_ediv_of_mul_le (by omega)
  have e1 := h.eq
  have h5 : (q - 1) * y0 ≤ 4294967296 * 4294967295 ∨ 4294967296 < q - 1 := by
    rcases Int.lt_or_le 4294967296 (q - 1) with h | h
    · exact .inr h
    · exact .inl (Int.mul_le_mul h hy0' hy0 (by omega))
  have e2 : (q - 1) * y1 = u - r - y1 := by rw [Int.sub_mul]; omega
  rcases h5 with h5 | h5
  · rw [Int.mul_add, ← Int.mul_assoc, e2]
    omega
  · exfalso
    have : (q - 1) * y1 ≥ 4294967297 * y1 := Int.mul_le_mul_of_nonneg_right (by omega) (by omega)
    have := h.r0
    omega
theorem digit_done {u y1 y0 e : Int} (B : DigB u y1 y0 e) {q r : Int} (h : Digit u y1 y0 e q r) (hq : q ≤ 4294967295) (hq' : q * y0 ≤ 4294967296 * r + e) : q = (u * 4294967296 + e) / (y1 * 4294967296 + y0) := by
  obtain ⟨hy1, hy1', hy0, hy0', hu, huv, he, he'⟩ := B
  have hg := h.ge
  suffices q ≤ (u * 4294967296 + e) / (y1 * 4294967296 + y0) by omega
  apply Int.le_ediv_of_mul_le (by omega)
  have e1 := h.eq
  rw [Int.mul_add, ← Int.mul_assoc]
  have e2 : q * y1 = u - r := by omega
  rw [e2]
  omega
theorem digit_rest {u y1 y0 e : Int} (B : DigB u y1 y0 e) : IntKind.u64.wrap (IntKind.u64.wrap (IntKind.u64.wrap (u * 4294967296) + e) - IntKind.u64.wrap ((u * 4294967296 + e) / (y1 * 4294967296 + y0) * (y1 * 4294967296 + y0))) = (u * 4294967296 + e) % (y1 * 4294967296 + y0) := by
  obtain ⟨hy1, hy1', hy0, hy0', hu, huv, he, he'⟩ := B
  have h1 := Int.mul_ediv_add_emod (u * 4294967296 + e) (y1 * 4294967296 + y0)
  have h2 := Int.emod_nonneg (u * 4294967296 + e) (by omega : y1 * 4294967296 + y0 ≠ 0)
  have h3 := Int.emod_lt_of_pos (u * 4294967296 + e) (by omega : 0 < y1 * 4294967296 + y0)
  rw [Int.mul_comm ((u * 4294967296 + e) / (y1 * 4294967296 + y0))]
  generalize (y1 * 4294967296 + y0) * ((u * 4294967296 + e) / (y1 * 4294967296 + y0)) = p at *
  generalize (u * 4294967296 + e) % (y1 * 4294967296 + y0) = z at *
  simp only [wrapU]
  omega
theorem cast_aux (K a b g : Nat) : ((a : Int) * K + b) * g = ((a * g * K + b * g : Nat) : Int) := by
  rw [Int.natCast_add, Int.natCast_mul, Int.natCast_mul, Int.natCast_mul, Int.add_mul, Int.mul_right_comm]
/-- What the two words and the divisor are cut into, and how the parts are spelled in the walk. -/
theorem div_parts (h l d : Int) (h0 : 0 < h) (h1 : h < d) (d1 : d ≤ 18446744073709551615) (l0 : 0 ≤ l) (l1 : l ≤ 18446744073709551615) :
    ∃ (s : Nat) (v y1 y0 u m m1 m0 : Int), s ≤ 63 ∧ (64 - (Lib.bitLen d.toNat : Int)) = s ∧ IntKind.u64.wrap (d * 2 ^ s) = v ∧ v / 4294967296 = y1 ∧ bits BinOp.and IntKind.u64 v 4294967295 = y0 ∧
      bits BinOp.or IntKind.u64 (IntKind.u64.wrap (h * 2 ^ s)) (l / 2 ^ (64 - s)) = u ∧ IntKind.u64.wrap (l * 2 ^ s) = m ∧ m / 4294967296 = m1 ∧ bits BinOp.and IntKind.u64 m 4294967295 = m0 ∧
      2147483648 ≤ y1 ∧ y1 ≤ 4294967295 ∧ 0 ≤ y0 ∧ y0 ≤ 4294967295 ∧ 0 ≤ m1 ∧ m1 ≤ 4294967295 ∧ 0 ≤ m0 ∧ m0 ≤ 4294967295 ∧ 0 ≤ u ∧ u < v ∧ v ≤ 18446744073709551615 ∧ v = y1 * 4294967296 + y0 ∧ v = d * 2 ^ s ∧
      (h * 18446744073709551616 + l) * 2 ^ s = (u * 4294967296 + m1) * 4294967296 + m0 := by
  obtain ⟨hn, rfl⟩ := Int.eq_ofNat_of_zero_le (Int.le_of_lt h0)
  obtain ⟨ln, rfl⟩ := Int.eq_ofNat_of_zero_le l0
  obtain ⟨dn, rfl⟩ := Int.eq_ofNat_of_zero_le (show 0 ≤ d by omega)
  have hb := Lib.bitLenAux_bounds 64 dn (by omega) (by omega)
  have hle : Lib.bitLen dn ≤ 64 := Lib.bitLen_le dn 64 (by omega) (by omega)
  change 1 ≤ Lib.bitLen dn ∧ 2 ^ (Lib.bitLen dn - 1) ≤ dn ∧ dn < 2 ^ Lib.bitLen dn at hb
  rw [Int.toNat_natCast]
  generalize Lib.bitLen dn = k at *
  obtain ⟨hk, hlo, hhi⟩ := hb
  have es : (64 - k) + k = 64 := by omega
  obtain ⟨s, hs⟩ : ∃ s, s = 64 - k := ⟨_, rfl⟩
  have hP := Nat.two_pow_pos s
  have hc : ((2 ^ s : Nat) : Int) = (2 : Int) ^ s := by rw [Int.natCast_pow]; rfl
  -- the divisor, shifted
  have v1 : dn * 2 ^ s < 18446744073709551616 := by
    have : dn * 2 ^ s < 2 ^ k * 2 ^ s := Nat.mul_lt_mul_of_pos_right hhi hP
    rw [← Nat.pow_add, show k + s = 64 by omega] at this
    exact this
  have v0 : 9223372036854775808 ≤ dn * 2 ^ s := by
    have : 2 ^ (k - 1) * 2 ^ s ≤ dn * 2 ^ s := Nat.mul_le_mul_right _ hlo
    rw [← Nat.pow_add, show k - 1 + s = 63 by omega] at this
    exact this
  -- the higher word, shifted
  have a1 : hn * 2 ^ s < dn * 2 ^ s := Nat.mul_lt_mul_of_pos_right (by omega) hP
  have b1 : ln / 2 ^ (64 - s) < 2 ^ s := by
    apply Nat.div_lt_of_lt_mul
    rw [← Nat.pow_add, show 64 - s + s = 64 by omega]
    omega
  have hle' : hn * 2 ^ s + 2 ^ s ≤ dn * 2 ^ s := by
    have : (hn + 1) * 2 ^ s ≤ dn * 2 ^ s := Nat.mul_le_mul_right _ (by omega)
    rwa [Nat.add_mul, Nat.one_mul] at this
  have c1 : ln * 2 ^ s = ln / 2 ^ (64 - s) * 18446744073709551616 + ln * 2 ^ s % 18446744073709551616 := by
    have e1 : (18446744073709551616 : Nat) = 2 ^ (64 - s) * 2 ^ s := by rw [← Nat.pow_add, show 64 - s + s = 64 by omega]
    have e2 : ln * 2 ^ s / 18446744073709551616 = ln / 2 ^ (64 - s) := by rw [e1, Nat.mul_div_mul_right _ _ hP]
    have := Nat.div_add_mod (ln * 2 ^ s) 18446744073709551616
    rw [e2, Nat.mul_comm] at this
    exact this.symm
  have c2 : ln * 2 ^ s % 18446744073709551616 < 18446744073709551616 := Nat.mod_lt _ (by omega)
  refine ⟨s, (dn * 2 ^ s : Nat), ((dn * 2 ^ s / 4294967296 : Nat) : Int), ((dn * 2 ^ s % 4294967296 : Nat) : Int), ((hn * 2 ^ s + ln / 2 ^ (64 - s) : Nat) : Int), ((ln * 2 ^ s % 18446744073709551616 : Nat) : Int),
    ((ln * 2 ^ s % 18446744073709551616 / 4294967296 : Nat) : Int), ((ln * 2 ^ s % 18446744073709551616 % 4294967296 : Nat) : Int), by omega, by omega, ?_, ?_, ?_, ?_, ?_, ?_, ?_, ?_⟩
  · rw [wrapU, ← hc, ← Int.natCast_mul]
    generalize dn * 2 ^ s = x at *
    omega
  · generalize dn * 2 ^ s = x at *
    omega
  · have := bits_and_u64_nat (dn * 2 ^ s) 4294967295 (by omega) (by omega)
    rw [show ((4294967295 : Nat) : Int) = 4294967295 by rfl] at this
    rw [this, show 4294967295 = 2 ^ 32 - 1 by rfl, Nat.and_two_pow_sub_one_eq_mod]
  · have e1 : IntKind.u64.wrap ((hn : Int) * 2 ^ s) = ((hn * 2 ^ s : Nat) : Int) := by
      rw [wrapU, ← hc, ← Int.natCast_mul]
      omega
    have e2 : (ln : Int) / 2 ^ (64 - s) = ((ln / 2 ^ (64 - s) : Nat) : Int) := by
      rw [Int.natCast_ediv, Int.natCast_pow]; rfl
    have hs64 : (2 : Nat) ^ s ≤ 9223372036854775808 := Nat.pow_le_pow_right (n := 2) (by omega) (show s ≤ 63 by omega)
    rw [e1, e2, bits_or_u64_nat _ _ (by omega) (by omega), Nat.mul_comm hn, ← Nat.two_pow_add_eq_or_of_lt b1]
  · rw [wrapU, ← hc, ← Int.natCast_mul]
    generalize ln * 2 ^ s = x at *
    omega
  · generalize ln * 2 ^ s % 18446744073709551616 = x at *
    omega
  · have := bits_and_u64_nat (ln * 2 ^ s % 18446744073709551616) 4294967295 (by omega) (by omega)
    rw [show ((4294967295 : Nat) : Int) = 4294967295 by rfl] at this
    rw [this, show 4294967295 = 2 ^ 32 - 1 by rfl, Nat.and_two_pow_sub_one_eq_mod]
  · have e3 : (((hn : Int) * 18446744073709551616 + ln) * 2 ^ s) = ((hn * 2 ^ s * 18446744073709551616 + ln * 2 ^ s : Nat) : Int) := by
      rw [← hc]
      exact cast_aux 18446744073709551616 hn ln (2 ^ s)
    rw [e3, ← hc, ← Int.natCast_mul]
    clear e3 hc hs hhi hlo es hP
    generalize ln / 2 ^ (64 - s) = t at *
    generalize ln * 2 ^ s = y at *
    generalize hn * 2 ^ s = x at *
    generalize dn * 2 ^ s = z at *
    generalize 2 ^ s = g at *
    omega
theorem div_fin {h l d u m1 m0 y1 y0 v Q z R t : Int} {s : Nat} (hQ : (u * 4294967296 + m1) / (y1 * 4294967296 + y0) = Q) (hz : (u * 4294967296 + m1) % (y1 * 4294967296 + y0) = z)
    (hR : (z * 4294967296 + m0) / (y1 * 4294967296 + y0) = R) (ht : (z * 4294967296 + m0) % (y1 * 4294967296 + y0) = t) (hv : v = y1 * 4294967296 + y0) (hvd : v = d * 2 ^ s)
    (hN : (h * 18446744073709551616 + l) * 2 ^ s = (u * 4294967296 + m1) * 4294967296 + m0) (hd : 0 < d) (t0 : 0 ≤ t) (t1 : t < v) :
    (h * 18446744073709551616 + l) / d = Q * 4294967296 + R ∧ (h * 18446744073709551616 + l) % d = t / 2 ^ s := by
  rw [← hv] at hQ hz hR ht
  have a1 := Int.mul_ediv_add_emod (u * 4294967296 + m1) v
  have a2 := Int.mul_ediv_add_emod (z * 4294967296 + m0) v
  rw [hQ, hz] at a1
  rw [hR, ht] at a2
  have hN2 : (h * 18446744073709551616 + l) * 2 ^ s = v * (Q * 4294967296 + R) + t := by
    rw [hN, Int.mul_add, ← Int.mul_assoc]
    omega
  have hp : (0 : Int) < 2 ^ s := Int.pow_pos (by omega)
  rw [hvd, Int.mul_assoc, Int.mul_comm (2 ^ s), ← Int.mul_assoc] at hN2
  generalize h * 18446744073709551616 + l = N at *
  generalize Q * 4294967296 + R = q at *
  -- N g = d q g + t, t < d g
  have e1 : (N - d * q) * 2 ^ s = t := by rw [Int.sub_mul]; omega
  have e2 : t / 2 ^ s = N - d * q := by rw [← e1, Int.mul_ediv_cancel _ (by omega)]
  have e3 : 0 ≤ N - d * q := by rw [← e2]; exact Int.ediv_nonneg t0 (by omega)
  have e4 : N - d * q < d := by
    rw [hvd] at t1
    rw [← e1] at t1
    exact Int.lt_of_mul_lt_mul_right t1 (by omega)
  have e5 : N = (N - d * q) + d * q := by omega
  rw [e2]
  constructor
  · rw [e5, Int.add_mul_ediv_left _ _ (by omega), Int.ediv_eq_zero_of_lt e3 e4]; omega
  · conv => lhs; rw [e5]
    rw [Int.add_mul_emod_self_left, Int.emod_eq_of_lt e3 e4]
end Go.Proofs.Ytbkopmgfkokmgaa
