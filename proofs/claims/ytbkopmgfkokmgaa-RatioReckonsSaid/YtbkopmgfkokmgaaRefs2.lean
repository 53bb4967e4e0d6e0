/- The contracts of the reference's Add, Sub and Mul, whole. Asked: that the numbers are words. -/
import Derived.Test.YtbkopmgfkokmgaaRefs
import Derived.Test.YtbkopmgfkokmgaaFrac2
namespace Go.Proofs.Ytbkopmgfkokmgaa
open Go.RowKit
theorem pow_half : 680564733841876926926749214863536422912 ≤ 2 ^ 255 := by decide
theorem half_le {a : Nat} (h : a ≤ 680564733841876926926749214863536422912) : 2 * a ≤ 2 ^ 256 := by
  have h1 := Nat.le_trans h pow_half
  have h2 : (2 : Nat) ^ 256 = 2 * 2 ^ 255 := by rw [← Nat.pow_succ']
  rw [h2]
  exact Nat.mul_le_mul_left 2 h1
theorem mul_half {a b : Int} (h : Wrd a) (h' : Wrd b) : a.toNat * b.toNat ≤ 340282366920938463463374607431768211456 := by
  obtain ⟨h1, h2⟩ := h
  obtain ⟨h3, h4⟩ := h'
  have h3 : a.toNat * b.toNat ≤ 18446744073709551615 * 18446744073709551615 := Nat.mul_le_mul (by omega) (by omega)
  exact Nat.le_trans h3 (by decide)
theorem raddF_any (an ad bn bd : Int) (w : World) (an0 : 0 ≤ an) (an1 : an ≤ 18446744073709551615) (ad0 : 0 ≤ ad) (ad1 : ad ≤ 18446744073709551615) (bn0 : 0 ≤ bn) (bn1 : bn ≤ 18446744073709551615) (bd0 : 0 ≤ bd) (bd1 : bd ≤ 18446744073709551615) : Calls Try.prog 17 #[.agg #[.int .u64 an, .int .u64 ad], .agg #[.int .u64 bn, .int .u64 bd]] w fun e w' => e = .returned (.tuple #[.agg #[.int .u64 (addF an ad bn bd).1.1, .int .u64 (addF an ad bn bd).1.2], .int .i64 (addF an ad bn bd).2]) ∧ Below w.heap.size w w' := by
  by_cases h1 : ad = 0
  · have e : addF an ad bn bd = ((0, 0), 4) := by unfold addF; rw [if_pos (.inl h1)]
    rw [e]; exact radd_z1 an ad bn bd w (by simpa using h1)
  by_cases h2 : bd = 0
  · have e : addF an ad bn bd = ((0, 0), 4) := by unfold addF; rw [if_pos (.inr h2)]
    rw [e]; exact radd_z2 an ad bn bd w (by simpa using h1) (by simpa using h2)
  have wa : Wrd an := ⟨an0, an1⟩
  have wb : Wrd ad := ⟨ad0, ad1⟩
  have wc : Wrd bn := ⟨bn0, bn1⟩
  have wd : Wrd bd := ⟨bd0, bd1⟩
  have m1 := mul_half wa wd
  have m2 := mul_half wc wb
  have m3 := mul_half wb wd
  have hl := fun W => rlowest_any (an.toNat * bd.toNat + bn.toNat * ad.toNat) (ad.toNat * bd.toNat) W (half_le (by omega)) (half_le (by omega)) (Nat.mul_pos (by omega) (by omega))
  rw [Int.natCast_add, mul_nat an0 bd0, mul_nat bn0 ad0, mul_nat ad0 bd0] at hl
  have e : addF an ad bn bd = fracR (an * bd + bn * ad) (ad * bd) := by unfold addF; rw [if_neg (by omega)]
  rw [e]
  exact radd_w an ad bn bd _ _ _ w (by simpa using h1) (by simpa using h2) (hid wa) (hid wb) (hid wc) (hid wd) trivial (hid hl)
theorem rmulF_any (an ad bn bd : Int) (w : World) (an0 : 0 ≤ an) (an1 : an ≤ 18446744073709551615) (ad0 : 0 ≤ ad) (ad1 : ad ≤ 18446744073709551615) (bn0 : 0 ≤ bn) (bn1 : bn ≤ 18446744073709551615) (bd0 : 0 ≤ bd) (bd1 : bd ≤ 18446744073709551615) : Calls Try.prog 20 #[.agg #[.int .u64 an, .int .u64 ad], .agg #[.int .u64 bn, .int .u64 bd]] w fun e w' => e = .returned (.tuple #[.agg #[.int .u64 (mulF an ad bn bd).1.1, .int .u64 (mulF an ad bn bd).1.2], .int .i64 (mulF an ad bn bd).2]) ∧ Below w.heap.size w w' := by
  by_cases h1 : ad = 0
  · have e : mulF an ad bn bd = ((0, 0), 4) := by unfold mulF; rw [if_pos (.inl h1)]
    rw [e]; exact rmul_z1 an ad bn bd w (by simpa using h1)
  by_cases h2 : bd = 0
  · have e : mulF an ad bn bd = ((0, 0), 4) := by unfold mulF; rw [if_pos (.inr h2)]
    rw [e]; exact rmul_z2 an ad bn bd w (by simpa using h1) (by simpa using h2)
  have wa : Wrd an := ⟨an0, an1⟩
  have wb : Wrd ad := ⟨ad0, ad1⟩
  have wc : Wrd bn := ⟨bn0, bn1⟩
  have wd : Wrd bd := ⟨bd0, bd1⟩
  have m1 := mul_half wa wc
  have m3 := mul_half wb wd
  have hl := fun W => rlowest_any (an.toNat * bn.toNat) (ad.toNat * bd.toNat) W (half_le (by omega)) (half_le (by omega)) (Nat.mul_pos (by omega) (by omega))
  rw [mul_nat an0 bn0, mul_nat ad0 bd0] at hl
  have e : mulF an ad bn bd = fracR (an * bn) (ad * bd) := by unfold mulF; rw [if_neg (by omega)]
  rw [e]
  exact rmul_w an ad bn bd _ _ _ w (by simpa using h1) (by simpa using h2) (hid wa) (hid wb) (hid wc) (hid wd) trivial (hid hl)
theorem rsubF_any (an ad bn bd : Int) (w : World) (an0 : 0 ≤ an) (an1 : an ≤ 18446744073709551615) (ad0 : 0 ≤ ad) (ad1 : ad ≤ 18446744073709551615) (bn0 : 0 ≤ bn) (bn1 : bn ≤ 18446744073709551615) (bd0 : 0 ≤ bd) (bd1 : bd ≤ 18446744073709551615) : Calls Try.prog 19 #[.agg #[.int .u64 an, .int .u64 ad], .agg #[.int .u64 bn, .int .u64 bd]] w fun e w' => e = .returned (.tuple #[.agg #[.int .u64 (subF an ad bn bd).1.1, .int .u64 (subF an ad bn bd).1.2], .int .i64 (subF an ad bn bd).2]) ∧ Below w.heap.size w w' := by
  have hc := fun W => rcmp_any an ad bn bd W an0 an1 ad0 ad1 bn0 bn1 bd0 bd1
  by_cases h1 : ad = 0 ∨ bd = 0
  · have e : subF an ad bn bd = ((0, 0), 4) := by unfold subF; rw [if_pos h1]
    have e2 : cmpR an ad bn bd = (0, 4) := by unfold cmpR; rw [if_pos h1]
    rw [e2] at hc
    rw [e]; exact rsub_e an ad bn bd 0 4 w (by simp) (hid hc)
  · have e2 : cmpR an ad bn bd = (cmpZ (an * bd) (bn * ad), 0) := by unfold cmpR; rw [if_neg h1]
    rw [e2] at hc
    by_cases h2 : an * bd < bn * ad
    · have e : subF an ad bn bd = ((0, 0), 2) := by unfold subF; rw [if_neg h1, if_pos h2]
      have e3 : cmpZ (an * bd) (bn * ad) = -1 := by unfold cmpZ; rw [if_pos h2]
      rw [e3] at hc
      rw [e]; exact rsub_n an ad bn bd (-1) w (by omega) (hid hc)
    · have e : subF an ad bn bd = fracR (an * bd - bn * ad) (ad * bd) := by unfold subF; rw [if_neg h1, if_neg h2]
      rw [e]
      have wa : Wrd an := ⟨an0, an1⟩
      have wb : Wrd ad := ⟨ad0, ad1⟩
      have wc : Wrd bn := ⟨bn0, bn1⟩
      have wd : Wrd bd := ⟨bd0, bd1⟩
      have m1 := mul_half wa wd
      have m3 := mul_half wb wd
      have hle : bn.toNat * ad.toNat ≤ an.toNat * bd.toNat := by
        have e1 := mul_nat an0 bd0
        have e2 := mul_nat bn0 ad0
        omega
      have hl := fun W => rlowest_any (an.toNat * bd.toNat - bn.toNat * ad.toNat) (ad.toNat * bd.toNat) W (half_le (by omega)) (half_le (by omega)) (Nat.mul_pos (by omega) (by omega))
      rw [Int.natCast_sub hle, mul_nat an0 bd0, mul_nat bn0 ad0, mul_nat ad0 bd0] at hl
      exact rsub_w an ad bn bd _ _ _ _ w ((cmpZ_ge _ _).2 (by omega)) (hid wa) (hid wb) (hid wc) (hid wd) (hid hle) (hid hc) (hid hl)
end Go.Proofs.Ytbkopmgfkokmgaa
