/- The plain laws of RatioBack and RatioParts: what was added can be taken away; a sum times a number is the sum of the products. No program is in sight. -/
import Derived.Test.YtbkopmgfkokmgaaFrac
namespace Go.Proofs.Ytbkopmgfkokmgaa
theorem addF_ok {an ad bn bd x y : Int} (h1 : 0 ≤ an) (h2 : 0 ≤ ad) (h3 : 0 ≤ bn) (h4 : 0 ≤ bd) (h : addF an ad bn bd = ((x, y), 0)) :
    0 < ad ∧ 0 < bd ∧ 0 ≤ x ∧ x ≤ 18446744073709551615 ∧ 0 < y ∧ y ≤ 18446744073709551615 ∧ Cop x y ∧ x * (ad * bd) = (an * bd + bn * ad) * y := by
  unfold addF at h
  split at h
  · simp at h
  · have a0 : 0 < ad := by omega
    have b0 : 0 < bd := by omega
    have n0 : 0 ≤ an * bd + bn * ad := Int.add_nonneg (Int.mul_nonneg h1 h4) (Int.mul_nonneg h3 h2)
    exact ⟨a0, b0, fracR_ok n0 (Int.mul_pos a0 b0) h⟩
theorem mulF_ok {an ad bn bd x y : Int} (h1 : 0 ≤ an) (h2 : 0 ≤ ad) (h3 : 0 ≤ bn) (h4 : 0 ≤ bd) (h : mulF an ad bn bd = ((x, y), 0)) :
    0 < ad ∧ 0 < bd ∧ 0 ≤ x ∧ x ≤ 18446744073709551615 ∧ 0 < y ∧ y ≤ 18446744073709551615 ∧ Cop x y ∧ x * (ad * bd) = an * bn * y := by
  unfold mulF at h
  split at h
  · simp at h
  · have a0 : 0 < ad := by omega
    have b0 : 0 < bd := by omega
    exact ⟨a0, b0, fracR_ok (Int.mul_nonneg h1 h3) (Int.mul_pos a0 b0) h⟩
theorem addF_err (an ad bn bd : Int) : (addF an ad bn bd).2 = 0 ∨ (addF an ad bn bd).2 = 4 ∨ (addF an ad bn bd).2 = 7 := by
  unfold addF
  split
  · exact .inr (.inl rfl)
  · rcases fracR_err (n := an * bd + bn * ad) (d := ad * bd) with h | h
    · exact .inl h
    · rw [h]; exact .inr (.inr rfl)
theorem eq_of_mul {a b k : Int} (hk : 0 < k) (h : a * k = b * k) : a = b := Int.eq_of_mul_eq_mul_right (by omega) h
theorem le_of_mul {a b k : Int} (hk : 0 < k) (h : a * k ≤ b * k) : a ≤ b := Int.le_of_mul_le_mul_right h hk
/-- What was added can be taken away. -/
theorem back_law {an ad bn bd x y : Int} (h1 : 0 ≤ an) (h2 : 0 ≤ ad) (h3 : 0 ≤ bn) (h4 : 0 ≤ bd) (h : addF an ad bn bd = ((x, y), 0)) :
    subF x y bn bd = ((0, 0), 7) ∨ ∃ r s : Int, subF x y bn bd = ((r, s), 0) ∧ 0 ≤ r ∧ r ≤ 18446744073709551615 ∧ 0 ≤ s ∧ s ≤ 18446744073709551615 ∧ cmpR r s an ad = (0, 0) := by
  obtain ⟨a0, b0, x0, x1, y0, y1, c, e⟩ := addF_ok h1 h2 h3 h4 h
  have hge : bn * y ≤ x * bd := by
    apply le_of_mul a0
    have e1 : x * bd * ad = an * bd * y + bn * y * ad := by
      have : x * bd * ad = x * (ad * bd) := by ac_rfl
      rw [this, e, Int.add_mul]
      congr 1
      ac_rfl
    have : 0 ≤ an * bd * y := Int.mul_nonneg (Int.mul_nonneg h1 h4) (by omega)
    omega
  have hs : subF x y bn bd = fracR (x * bd - bn * y) (y * bd) := by
    unfold subF
    rw [if_neg (by omega), if_neg (by omega)]
  rw [hs]
  have yb : 0 < y * bd := Int.mul_pos y0 b0
  rcases fracR_err (n := x * bd - bn * y) (d := y * bd) with h5 | h5
  · right
    obtain ⟨⟨⟨r, s⟩, k⟩, hr⟩ : ∃ z, fracR (x * bd - bn * y) (y * bd) = z := ⟨_, rfl⟩
    rw [hr] at h5
    simp only at h5
    subst h5
    obtain ⟨r0, r1, s0, s1, -, e2⟩ := fracR_ok (by omega) yb hr
    refine ⟨r, s, hr, r0, r1, by omega, s1, ?_⟩
    have : r * ad = an * s := by
      apply eq_of_mul yb
      have e3 : r * ad * (y * bd) = (x * (ad * bd) - bn * ad * y) * s := by
        have : r * ad * (y * bd) = r * (y * bd) * ad := by ac_rfl
        rw [this, e2, Int.sub_mul, Int.sub_mul, Int.sub_mul]
        congr 1 <;> ac_rfl
      rw [e3, e, Int.add_mul, Int.add_sub_cancel]
      ac_rfl
    unfold cmpR
    rw [if_neg (by omega), this, cmpZ_self]
  · exact .inl h5
/-- A sum times a number is the sum of the products, and divided by it again it is the sum. -/
theorem parts_law {an ad bn bd cn cd sn sd pn pd xn xd yn yd zn zd : Int} (h1 : 0 ≤ an) (h2 : 0 ≤ ad) (h3 : 0 ≤ bn) (h4 : 0 ≤ bd) (h5 : 0 ≤ cn) (h6 : 0 ≤ cd)
    (hs : addF an ad bn bd = ((sn, sd), 0)) (hp : mulF sn sd cn cd = ((pn, pd), 0)) (hx : mulF an ad cn cd = ((xn, xd), 0)) (hy : mulF bn bd cn cd = ((yn, yd), 0)) (hz : addF xn xd yn yd = ((zn, zd), 0)) :
    pn = zn ∧ pd = zd ∧ 0 < cd ∧ (cn = 0 → pn = 0 ∧ pd = 1) ∧ (cn ≠ 0 → mulF pn pd cd cn = ((sn, sd), 0)) ∧
      (0 ≤ sn ∧ sn ≤ 18446744073709551615 ∧ 0 ≤ sd ∧ sd ≤ 18446744073709551615) ∧ (0 ≤ pn ∧ pn ≤ 18446744073709551615 ∧ 0 ≤ pd ∧ pd ≤ 18446744073709551615) := by
  obtain ⟨a0, b0, sn0, sn1, sd0, sd1, sc, se⟩ := addF_ok h1 h2 h3 h4 hs
  obtain ⟨-, c0, pn0, pn1, pd0, pd1, pc, pe⟩ := mulF_ok sn0 (by omega) h5 h6 hp
  obtain ⟨-, -, xn0, xn1, xd0, xd1, xc, xe⟩ := mulF_ok h1 h2 h5 h6 hx
  obtain ⟨-, -, yn0, yn1, yd0, yd1, yc, ye⟩ := mulF_ok h3 h4 h5 h6 hy
  obtain ⟨-, -, zn0, zn1, zd0, zd1, zc, ze⟩ := addF_ok xn0 (by omega) yn0 (by omega) hz
  have key : pn * zd = zn * pd := by
    have k1 : 0 < sd * cd * (xd * yd) * (ad * cd * (bd * cd)) := Int.mul_pos (Int.mul_pos (Int.mul_pos sd0 c0) (Int.mul_pos xd0 yd0)) (Int.mul_pos (Int.mul_pos a0 c0) (Int.mul_pos b0 c0))
    apply eq_of_mul k1
    have e1 : pn * zd * (sd * cd * (xd * yd) * (ad * cd * (bd * cd))) = (pn * (sd * cd)) * (ad * bd) * (zd * (xd * yd) * (cd * cd)) := by ac_rfl
    have e2 : zn * pd * (sd * cd * (xd * yd) * (ad * cd * (bd * cd))) = (zn * (xd * yd)) * ((ad * cd) * (bd * cd)) * (pd * (sd * cd)) := by ac_rfl
    have e3 : sn * cn * pd * (ad * bd) = (sn * (ad * bd)) * (cn * pd) := by ac_rfl
    have e4 : (xn * yd + yn * xd) * zd * ((ad * cd) * (bd * cd)) = ((xn * (ad * cd)) * (bd * cd * yd) + (yn * (bd * cd)) * (ad * cd * xd)) * zd := by
      rw [Int.mul_right_comm, Int.add_mul]
      congr 2 <;> ac_rfl
    rw [e1, pe, e3, se, e2, ze, e4, xe, ye]
    have e5 : an * cn * xd * (bd * cd * yd) + bn * cn * yd * (ad * cd * xd) = (an * bd + bn * ad) * (cn * xd * yd * cd) := by
      rw [Int.add_mul]
      congr 1 <;> ac_rfl
    rw [e5]
    ac_rfl
  obtain ⟨k1, k2⟩ := cop_unique pn0 pd0 zn0 zd0 pc zc key
  refine ⟨k1, k2, c0, ?_, ?_, ⟨sn0, sn1, by omega, sd1⟩, ⟨pn0, pn1, by omega, pd1⟩⟩
  · intro hc
    rw [hc, Int.mul_zero, Int.zero_mul] at pe
    have hpn : pn = 0 := by
      rcases Int.mul_eq_zero.1 pe with h | h
      · exact h
      · have := Int.mul_pos sd0 c0; omega
    refine ⟨hpn, ?_⟩
    rw [hpn] at pc
    unfold Cop gc at pc
    rw [Int.gcd_zero_left] at pc
    omega
  · intro hc
    have cn0 : 0 < cn := by omega
    unfold mulF
    rw [if_neg (by omega)]
    have e := fracR_eq (n := pn * cd) (d := pd * cn) (n' := sn) (d' := sd) (Int.mul_nonneg pn0 h6) (Int.mul_pos pd0 cn0) sn0 sd0 (by
      have a : pn * cd * sd = pn * (sd * cd) := by ac_rfl
      have b : sn * (pd * cn) = sn * cn * pd := by ac_rfl
      rw [a, b, pe])
    rw [e, fracR_cop sn0 sd0 sc, if_pos ⟨sn1, sd1⟩]
end Go.Proofs.Ytbkopmgfkokmgaa
