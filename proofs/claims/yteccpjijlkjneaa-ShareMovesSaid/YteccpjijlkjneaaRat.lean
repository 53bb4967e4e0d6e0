/- The plain model of chapter 2's fractions: lowest terms, and how two are compared. No program is in sight. -/
import Derived.Below
namespace Go.Proofs.Yteccpjijlkjneaa
/-- The greatest common divisor, as an integer. -/
def gc (a b : Int) : Int := (Int.gcd a b : Int)
theorem gc_step {a b : Int} (ha : 0 ≤ a) (hb : 0 < b) : gc b (a % b) = gc a b := by
  obtain ⟨x, rfl⟩ := Int.eq_ofNat_of_zero_le ha
  obtain ⟨y, rfl⟩ := Int.eq_ofNat_of_zero_le (Int.le_of_lt hb)
  unfold gc
  congr 1
  rw [← Int.natCast_emod, Int.gcd_natCast_natCast, Int.gcd_natCast_natCast, Nat.gcd_comm x y, Nat.gcd_rec y x, Nat.gcd_comm]
theorem gc_zero {a : Int} (ha : 0 ≤ a) : gc a 0 = a := by
  obtain ⟨x, rfl⟩ := Int.eq_ofNat_of_zero_le ha
  unfold gc; simp
theorem gc_pos {a b : Int} (hb : 0 < b) : 0 < gc a b := by
  unfold gc
  have : Int.gcd a b ≠ 0 := by
    intro h
    have := Int.gcd_eq_zero_iff.1 h
    omega
  omega
theorem gc_nonneg (a b : Int) : 0 ≤ gc a b := by unfold gc; omega
theorem gc_le {a b : Int} (hb : 0 < b) : gc a b ≤ b := by
  unfold gc
  exact Int.le_of_dvd hb (Int.gcd_dvd_right a b)
theorem div_le {a g : Int} (ha : 0 ≤ a) (hg : 0 < g) : 0 ≤ a / g ∧ a / g ≤ a := by
  refine ⟨Int.ediv_nonneg ha (by omega), ?_⟩
  exact Int.ediv_le_self _ ha
/-- The lowest form, and the error's number. -/
def newR (n d : Int) : (Int × Int) × Int := if d = 0 then ((0, 0), 2) else ((n / gc n d, d / gc n d), 0)
theorem newR_zero (n : Int) : newR n 0 = ((0, 0), 2) := by unfold newR; rw [if_pos rfl]
theorem newR_pos {n d : Int} (h : d ≠ 0) : newR n d = ((n / gc n d, d / gc n d), 0) := by unfold newR; rw [if_neg h]
def cmpZ (a b : Int) : Int := if a < b then -1 else if b < a then 1 else 0
def cmpR (an ad bn bd : Int) : Int × Int := if ad = 0 ∨ bd = 0 then (0, 4) else (cmpZ (an * bd) (bn * ad), 0)
/-- The higher words decide, then the lower ones. -/
theorem cmp_words (x y M : Int) (hM : 0 < M) (_hx : 0 ≤ x) (_hy : 0 ≤ y) :
    (if cmpZ (x / M) (y / M) ≠ 0 then cmpZ (x / M) (y / M) else cmpZ (x % M) (y % M)) = cmpZ x y := by
  have ex := Int.mul_ediv_add_emod x M
  have ey := Int.mul_ediv_add_emod y M
  have bx := Int.emod_nonneg x (by omega : M ≠ 0)
  have by_ := Int.emod_nonneg y (by omega : M ≠ 0)
  have cx := Int.emod_lt_of_pos x hM
  have cy := Int.emod_lt_of_pos y hM
  have mono1 : x / M < y / M → x < y := fun h => by
    have : M * (x / M + 1) ≤ M * (y / M) := Int.mul_le_mul_of_nonneg_left (by omega) (by omega)
    rw [Int.mul_add] at this
    omega
  have mono2 : y / M < x / M → y < x := fun h => by
    have : M * (y / M + 1) ≤ M * (x / M) := Int.mul_le_mul_of_nonneg_left (by omega) (by omega)
    rw [Int.mul_add] at this
    omega
  unfold cmpZ
  by_cases h1 : x / M < y / M
  · have := mono1 h1
    simp [h1, this]
  · by_cases h2 : y / M < x / M
    · have := mono2 h2
      have h3 : ¬ x < y := by omega
      simp [h1, h2, this, h3]
    · have e : x / M = y / M := by omega
      rw [e] at ex
      simp only [h1, h2, if_false, ne_eq, not_true_eq_false]
      have q1 : x % M < y % M ↔ x < y := by omega
      have q2 : y % M < x % M ↔ y < x := by omega
      simp only [q1, q2]
end Go.Proofs.Yteccpjijlkjneaa
