/- The contract of RatioParts. Asked: that the numbers are words. -/
import Derived.Test.YtbkopmgfkokmgaaWParts
import Derived.Deep.DeepCutAuto
namespace Go.Proofs.Ytbkopmgfkokmgaa
open Go.RowKit
theorem addF_wd {an ad bn bd : Int} (h1 : 0 ≤ an) (h2 : 0 ≤ ad) (h3 : 0 ≤ bn) (h4 : 0 ≤ bd) {x y e : Int} (h : addF an ad bn bd = ((x, y), e)) : 0 ≤ x ∧ x ≤ 18446744073709551615 ∧ 0 ≤ y ∧ y ≤ 18446744073709551615 := by
  by_cases he : e = 0
  · subst he
    obtain ⟨-, -, x0, x1, y0, y1, -, -⟩ := addF_ok h1 h2 h3 h4 h
    omega
  · unfold addF at h
    split at h
    · simp only [Prod.mk.injEq] at h; omega
    · rcases fracR_err (n := an * bd + bn * ad) (d := ad * bd) with h5 | h5
      · rw [h] at h5; exact absurd h5 he
      · rw [h5] at h; simp only [Prod.mk.injEq] at h; omega
theorem mulF_wd {an ad bn bd : Int} (h1 : 0 ≤ an) (h2 : 0 ≤ ad) (h3 : 0 ≤ bn) (h4 : 0 ≤ bd) {x y e : Int} (h : mulF an ad bn bd = ((x, y), e)) : 0 ≤ x ∧ x ≤ 18446744073709551615 ∧ 0 ≤ y ∧ y ≤ 18446744073709551615 := by
  by_cases he : e = 0
  · subst he
    obtain ⟨-, -, x0, x1, y0, y1, -, -⟩ := mulF_ok h1 h2 h3 h4 h
    omega
  · unfold mulF at h
    split at h
    · simp only [Prod.mk.injEq] at h; omega
    · rcases fracR_err (n := an * bn) (d := ad * bd) with h5 | h5
      · rw [h] at h5; exact absurd h5 he
      · rw [h5] at h; simp only [Prod.mk.injEq] at h; omega
theorem ratioParts_any (an ad bn bd cn cd : Int) (w : World) (an0 : 0 ≤ an) (an1 : an ≤ 18446744073709551615) (ad0 : 0 ≤ ad) (ad1 : ad ≤ 18446744073709551615) (bn0 : 0 ≤ bn) (bn1 : bn ≤ 18446744073709551615) (bd0 : 0 ≤ bd) (bd1 : bd ≤ 18446744073709551615) (cn0 : 0 ≤ cn) (cn1 : cn ≤ 18446744073709551615) (cd0 : 0 ≤ cd) (cd1 : cd ≤ 18446744073709551615) :
    Calls Try.prog 5 #[.agg #[.int .u64 an, .int .u64 ad, .int .u64 bn, .int .u64 bd, .int .u64 cn, .int .u64 cd]] w fun e w' => e = .returned (.bool true) ∧ Below w.heap.size w w' := by
  obtain ⟨⟨⟨sn, sd⟩, e1⟩, es⟩ : ∃ z, addF an ad bn bd = z := ⟨_, rfl⟩
  obtain ⟨s0, s1, s2, s3⟩ := addF_wd an0 ad0 bn0 bd0 es
  obtain ⟨⟨⟨pn, pd⟩, e2⟩, ep⟩ : ∃ z, mulF sn sd cn cd = z := ⟨_, rfl⟩
  obtain ⟨p0, p1, p2, p3⟩ := mulF_wd s0 s2 cn0 cd0 ep
  obtain ⟨⟨⟨xn, xd⟩, e3⟩, ex⟩ : ∃ z, mulF an ad cn cd = z := ⟨_, rfl⟩
  obtain ⟨x0, x1, x2, x3⟩ := mulF_wd an0 ad0 cn0 cd0 ex
  obtain ⟨⟨⟨yn, yd⟩, e4⟩, ey⟩ : ∃ z, mulF bn bd cn cd = z := ⟨_, rfl⟩
  obtain ⟨y0, y1, y2, y3⟩ := mulF_wd bn0 bd0 cn0 cd0 ey
  obtain ⟨⟨⟨zn, zd⟩, e5⟩, ez⟩ : ∃ z, addF xn xd yn yd = z := ⟨_, rfl⟩
  have ha : ∀ W, Calls Try.prog 15 #[.agg #[.int .u64 an, .int .u64 ad], .agg #[.int .u64 bn, .int .u64 bd]] W fun e w' => e = .returned (.tuple #[.agg #[.int .u64 sn, .int .u64 sd], .int .i64 e1]) ∧ Below W.heap.size W w' := fun W => by
    have h := addF_any an ad bn bd W an0 an1 ad0 ad1 bn0 bn1 bd0 bd1; rw [es] at h; exact h
  have HA := hid ha
  have hp : ∀ W, Calls Try.prog 16 #[.agg #[.int .u64 sn, .int .u64 sd], .agg #[.int .u64 cn, .int .u64 cd]] W fun e w' => e = .returned (.tuple #[.agg #[.int .u64 pn, .int .u64 pd], .int .i64 e2]) ∧ Below W.heap.size W w' := fun W => by
    have h := mulF_any sn sd cn cd W s0 s1 s2 s3 cn0 cn1 cd0 cd1; rw [ep] at h; exact h
  have HP := hid hp
  have hx : ∀ W, Calls Try.prog 16 #[.agg #[.int .u64 an, .int .u64 ad], .agg #[.int .u64 cn, .int .u64 cd]] W fun e w' => e = .returned (.tuple #[.agg #[.int .u64 xn, .int .u64 xd], .int .i64 e3]) ∧ Below W.heap.size W w' := fun W => by
    have h := mulF_any an ad cn cd W an0 an1 ad0 ad1 cn0 cn1 cd0 cd1; rw [ex] at h; exact h
  have HX := hid hx
  have hy : ∀ W, Calls Try.prog 16 #[.agg #[.int .u64 bn, .int .u64 bd], .agg #[.int .u64 cn, .int .u64 cd]] W fun e w' => e = .returned (.tuple #[.agg #[.int .u64 yn, .int .u64 yd], .int .i64 e4]) ∧ Below W.heap.size W w' := fun W => by
    have h := mulF_any bn bd cn cd W bn0 bn1 bd0 bd1 cn0 cn1 cd0 cd1; rw [ey] at h; exact h
  have HY := hid hy
  have hz : ∀ W, Calls Try.prog 15 #[.agg #[.int .u64 xn, .int .u64 xd], .agg #[.int .u64 yn, .int .u64 yd]] W fun e w' => e = .returned (.tuple #[.agg #[.int .u64 zn, .int .u64 zd], .int .i64 e5]) ∧ Below W.heap.size W w' := fun W => by
    have h := addF_any xn xd yn yd W x0 x1 x2 x3 y0 y1 y2 y3; rw [ez] at h; exact h
  have HZ := hid hz
  by_cases g1 : e1 = 0
  · by_cases g2 : e2 = 0
    · by_cases g3 : e3 = 0
      · by_cases g4 : e4 = 0
        · by_cases g5 : e5 = 0
          · subst g1 g2 g3 g4 g5
            obtain ⟨rfl, rfl, c0, hzero, hback, -, -⟩ := parts_law an0 ad0 bn0 bd0 cn0 cd0 es ep ex ey ez
            by_cases hc : cn = 0
            · obtain ⟨rfl, rfl⟩ := hzero hc
              exact parts_z an ad bn bd cn cd sn sd 0 1 xn xd yn yd 0 0 w (by simpa using hc) HA HP HX HY HZ
            · have hk := fun W => mulF_any pn pd cd cn W p0 p1 p2 p3 cd0 cd1 cn0 cn1
              rw [hback hc] at hk
              exact parts_k an ad bn bd cn cd sn sd pn pd xn xd yn yd 0 0 w (by simpa using hc) (by simp; omega) (hid hk) HA HP HX HY HZ
          · subst g1 g2 g3 g4
            exact parts_r5 an ad bn bd cn cd sn sd pn pd xn xd yn yd zn zd e5 w (by simpa using g5) HA HP HX HY HZ
        · subst g1 g2 g3
          exact parts_r4 an ad bn bd cn cd sn sd pn pd xn xd yn yd zn zd e4 e5 w (by simpa using g4) HA HP HX HY HZ
      · subst g1 g2
        exact parts_r3 an ad bn bd cn cd sn sd pn pd xn xd yn yd zn zd e3 e4 e5 w (by simpa using g3) HA HP HX HY HZ
    · subst g1
      exact parts_r2 an ad bn bd cn cd sn sd pn pd xn xd yn yd zn zd e2 e3 e4 e5 w (by simpa using g2) HA HP HX HY HZ
  · exact parts_r1 an ad bn bd cn cd sn sd pn pd xn xd yn yd zn zd e1 e2 e3 e4 e5 w (by simpa using g1) HA HP HX HY HZ
end Go.Proofs.Ytbkopmgfkokmgaa
