/- The plain law of RatioOrder: fractions are in a total order, and a multiple of both parts changes nothing. No program is in sight. -/
import Derived.Test.YtbkopmgfkokmgaaRat
namespace Go.Proofs.Ytbkopmgfkokmgaa
theorem cmpZ_le (a b : Int) : cmpZ a b ≤ 0 ↔ a ≤ b := by
  unfold cmpZ
  split
  · omega
  · split <;> omega
theorem cmpZ_ge (a b : Int) : 0 ≤ cmpZ a b ↔ b ≤ a := by
  unfold cmpZ
  split
  · omega
  · split <;> omega
theorem cmpZ_neg (a b : Int) : cmpZ b a = - cmpZ a b := by
  unfold cmpZ
  by_cases h1 : a < b
  · have h2 : ¬ b < a := by omega
    simp [h1, h2]
  · by_cases h2 : b < a <;> simp [h1, h2]
theorem cmpZ_self (a : Int) : cmpZ a a = 0 := by
  unfold cmpZ; simp
theorem cmpZ_bd (a b : Int) : -1 ≤ cmpZ a b ∧ cmpZ a b ≤ 1 := by
  unfold cmpZ
  split
  · omega
  · split <;> omega
/-- One fraction is not above the next, and that not above a third. -/
theorem frac_trans {an ad bn bd cn cd : Int} (hb : 0 < bd) (ha : 0 ≤ ad) (hc : 0 ≤ cd) (h1 : an * bd ≤ bn * ad) (h2 : bn * cd ≤ cn * bd) : an * cd ≤ cn * ad := by
  have e1 : an * bd * cd ≤ bn * ad * cd := Int.mul_le_mul_of_nonneg_right h1 hc
  have e2 : bn * cd * ad ≤ cn * bd * ad := Int.mul_le_mul_of_nonneg_right h2 ha
  have e3 : an * cd * bd ≤ cn * ad * bd := by
    have a1 : an * cd * bd = an * bd * cd := by rw [Int.mul_right_comm]
    have a2 : bn * ad * cd = bn * cd * ad := by rw [Int.mul_right_comm]
    have a3 : cn * ad * bd = cn * bd * ad := by rw [Int.mul_right_comm]
    rw [a1, a3]
    exact Int.le_trans e1 (a2 ▸ e2)
  exact Int.le_of_mul_le_mul_right e3 hb
/-- The three comparisons of three fractions, and one back: as numbers. -/
theorem order_law {an ad bn bd cn cd : Int} (ha : 0 < ad) (hb : 0 < bd) (hc : 0 < cd) :
    ∃ x y z : Int, cmpR an ad bn bd = (x, 0) ∧ cmpR bn bd cn cd = (y, 0) ∧ cmpR an ad cn cd = (z, 0) ∧ cmpR bn bd an ad = (-x, 0) ∧
      -1 ≤ x ∧ x ≤ 1 ∧ ¬ (x ≤ 0 ∧ y ≤ 0 ∧ 0 < z) ∧ ¬ (0 ≤ x ∧ 0 ≤ y ∧ z < 0) := by
  have e : ∀ p q r s : Int, 0 < q → 0 < s → cmpR p q r s = (cmpZ (p * s) (r * q), 0) := fun p q r s h1 h2 => by
    unfold cmpR; rw [if_neg (by omega)]
  refine ⟨_, _, _, e _ _ _ _ ha hb, e _ _ _ _ hb hc, e _ _ _ _ ha hc, by rw [e _ _ _ _ hb ha, cmpZ_neg], (cmpZ_bd _ _).1, (cmpZ_bd _ _).2, ?_, ?_⟩
  · rintro ⟨h1, h2, h3⟩
    rw [cmpZ_le] at h1 h2
    have := (cmpZ_le _ _).2 (frac_trans hb (by omega) (by omega) h1 h2)
    omega
  · rintro ⟨h1, h2, h3⟩
    rw [cmpZ_ge] at h1 h2
    have := (cmpZ_ge _ _).2 (frac_trans hb (by omega) (by omega) h2 h1)
    omega
theorem order_same {an ad m : Int} (ha : 0 < ad) (hm : 0 < m) : cmpR an ad (an * m) (ad * m) = (0, 0) := by
  have h : 0 < ad * m := Int.mul_pos ha hm
  unfold cmpR
  rw [if_neg (by omega)]
  have : an * (ad * m) = an * m * ad := by rw [Int.mul_comm ad m, Int.mul_assoc]
  rw [this, cmpZ_self]
end Go.Proofs.Ytbkopmgfkokmgaa
