/- The contracts of the program's Add, Sub and Mul: the exact sum, difference and product, or refused. Asked: that the numbers are words. -/
import Derived.Test.YtbkopmgfkokmgaaMul2
import Derived.Deep.DeepCutAuto
namespace Go.Proofs.Ytbkopmgfkokmgaa
open Go.RowKit
theorem quo_w {x y : Int} (h0 : 0 ≤ x) (h1 : x ≤ 18446744073709551615) (h2 : 0 < y) : IntKind.u64.wrap (x.tdiv y) = x / y := IntWalk.u64_quo x y ⟨h0, h1, by omega⟩
theorem lowest_cop (n d : Int) (w : World) (n0 : 0 ≤ n) (n1 : n ≤ 18446744073709551615) (d0 : 0 < d) (d1 : d ≤ 18446744073709551615) (c : Cop n d) :
    Calls Try.prog 21 #[.int .u64 n, .int .u64 d] w fun e w' => e = .returned (.agg #[.int .u64 n, .int .u64 d]) ∧ Below w.heap.size w w' := by
  have h := lowest_any n d w n0 n1 d0 d1
  obtain ⟨e1, e2⟩ := low_self n0 d0 c
  rwa [e1, e2] at h
theorem wide_ge {a b c : Int} (a0 : 0 ≤ a) (b0 : 0 ≤ b) (c0 : 0 ≤ c) (h : a ≠ 0 ∨ b ≠ 0) : 18446744073709551615 < wideN a b c := by
  unfold wideN; omega
theorem over_any (a b c p q : Int) (w : World) (a0 : 0 ≤ a) (a1 : a ≤ 18446744073709551615) (b0 : 0 ≤ b) (b1 : b ≤ 18446744073709551615) (c0 : 0 ≤ c) (c1 : c ≤ 18446744073709551615) (p0 : 0 < p) (p1 : p ≤ 18446744073709551615) (q0 : 0 < q) (q1 : q ≤ 18446744073709551615) :
    Calls Try.prog 38 #[.agg #[.int .u64 a, .int .u64 b, .int .u64 c], .int .u64 p, .int .u64 q] w fun e w' => e = .returned (.tuple #[.agg #[.int .u64 (fracR (wideN a b c) (p * q)).1.1, .int .u64 (fracR (wideN a b c) (p * q)).1.2], .int .i64 (fracR (wideN a b c) (p * q)).2]) ∧ Below w.heap.size w w' := by
  have N0 : 0 ≤ wideN a b c := by unfold wideN; omega
  obtain ⟨u0, u1, u2, r1, -, -, -, -, hr1, r10, r1p, D1⟩ := divided_any a b c p a0 a1 b0 b1 c0 c1 p0 p1
  have hg1 : gc p r1 = gc (wideN a b c) p := by rw [← hr1, gc_step N0 p0]
  have g10 : 0 < gc (wideN a b c) p := gc_pos p0
  have g11 : gc (wideN a b c) p ≤ p := gc_le p0
  have G1 : ∀ W, Calls Try.prog 32 #[.int .u64 p, .int .u64 r1] W fun e w' => e = .returned (.int .u64 (gc (wideN a b c) p)) ∧ Below W.heap.size W w' := fun W => by
    have h := gcd_any p r1 W (by omega) p1 r10 (by omega)
    rwa [hg1] at h
  have ho := @over_law (wideN a b c) p q N0 p0 q0
  generalize gc (wideN a b c) p = g1 at *
  obtain ⟨a', b', c', v1, hA, hB, hC, hN1, -, -, -, D2⟩ := divided_any a b c g1 a0 a1 b0 b1 c0 c1 g10 (by omega)
  have N10 : 0 ≤ wideN a' b' c' := by unfold wideN; omega
  obtain ⟨u3, u4, u5, r2, -, -, -, -, hr2, r20, r2q, D3⟩ := divided_any a' b' c' q hA.1 hA.2 hB.1 hB.2 hC.1 hC.2 q0 q1
  have hg2 : gc q r2 = gc (wideN a' b' c') q := by rw [← hr2, gc_step N10 q0]
  have g20 : 0 < gc (wideN a' b' c') q := gc_pos q0
  have g21 : gc (wideN a' b' c') q ≤ q := gc_le q0
  have G2 : ∀ W, Calls Try.prog 32 #[.int .u64 q, .int .u64 r2] W fun e w' => e = .returned (.int .u64 (gc (wideN a' b' c') q)) ∧ Below W.heap.size W w' := fun W => by
    have h := gcd_any q r2 W (by omega) q1 r20 (by omega)
    rwa [hg2] at h
  obtain ⟨hfr, hcop, n20, pp, qq⟩ := ho hN1 rfl (h3 := rfl) (h4 := rfl)
  generalize gc (wideN a' b' c') q = g2 at *
  obtain ⟨x, y, z, v2, hX, hY, hZ, hN2, -, -, -, D4⟩ := divided_any a' b' c' g2 hA.1 hA.2 hB.1 hB.2 hC.1 hC.2 g20 (by omega)
  rw [hN2] at hfr hcop n20
  have E1 := quo_w (x := p) (by omega) p1 g10
  have E2 := quo_w (x := q) (by omega) q1 g20
  have s1 : p / g1 ≤ p := Int.ediv_le_self _ (by omega)
  have s2 : q / g2 ≤ q := Int.ediv_le_self _ (by omega)
  generalize p / g1 = p' at *
  generalize q / g2 = q' at *
  have HM : ∀ W, Calls Try.prog 22 #[.int .u64 p', .int .u64 q'] W fun e w' => e = .returned (.tuple #[.int .u64 (p' * q' / 18446744073709551616), .int .u64 (p' * q' % 18446744073709551616)]) ∧ W = w' := fun W => mul_any p' q' W (by omega) (by omega) (by omega) (by omega)
  have pq0 := Int.mul_pos pp qq
  generalize p' * q' = m at *
  have base := fun (f : ∀ (b1 : 0 ≤ p) (b2 : 1 ≤ g1) (b3 : 0 ≤ q) (b4 : 1 ≤ g2) (b5 : 0 ≤ p') (b6 : p' ≤ 18446744073709551615) (b7 : 0 ≤ q') (b8 : q' ≤ 18446744073709551615), Calls Try.prog 38 #[.agg #[.int .u64 a, .int .u64 b, .int .u64 c], .int .u64 p, .int .u64 q] w fun e w' => e = .returned (.tuple #[.agg #[.int .u64 (fracR (wideN a b c) (p * q)).1.1, .int .u64 (fracR (wideN a b c) (p * q)).1.2], .int .i64 (fracR (wideN a b c) (p * q)).2]) ∧ Below w.heap.size w w') => f (by omega) (by omega) (by omega) (by omega) (by omega) (by omega) (by omega) (by omega)
  refine base fun b1 b2 b3 b4 b5 b6 b7 b8 => ?_
  by_cases hx : x = 0
  · by_cases hy : y = 0
    · by_cases hm : m / 18446744073709551616 = 0
      · subst hx hy
        have ez : wideN 0 0 z = z := by unfold wideN; omega
        have em : m % 18446744073709551616 = m := by omega
        rw [ez, if_pos ⟨hZ.2, by omega⟩] at hfr
        rw [ez] at hcop
        rw [em, hm] at HM
        rw [hfr]
        by_cases hz : z = 0
        · subst hz
          have e1 : m = 1 := by
            have h := hcop
            unfold Cop gc at h
            rw [Int.gcd_zero_left] at h
            omega
          subst e1
          exact over_d _ _ _ _ _ _ _ _ _ _ _ _ _ _ _ _ _ _ _ _ _ _ _ _ _ _ _ w b1 b2 b3 b4 b5 b6 b7 b8 (by simp) (by simp) (by simp) (by simp) (hid D1) (hid G1) (hid D2) (hid E1) (hid D3) (hid G2) (hid D4) (hid E2) (hid HM)
        · exact over_e _ _ _ _ _ _ _ _ _ _ _ _ _ _ _ _ _ _ _ _ _ _ _ _ _ _ _ w b1 b2 b3 b4 b5 b6 b7 b8 (by simp) (by simp) (by simp) (by simpa using hz) (hid fun W => lowest_cop z m W hZ.1 hZ.2 pq0 (by omega) hcop) (hid D1) (hid G1) (hid D2) (hid E1) (hid D3) (hid G2) (hid D4) (hid E2) (hid HM)
      · rw [if_neg (by omega)] at hfr
        rw [hfr]
        subst hx hy
        exact over_c _ _ _ _ _ _ _ _ _ _ _ _ _ _ _ _ _ _ _ _ _ _ _ _ _ _ _ w b1 b2 b3 b4 b5 b6 b7 b8 (by simp) (by simp) (by simpa using hm) (hid D1) (hid G1) (hid D2) (hid E1) (hid D3) (hid G2) (hid D4) (hid E2) (hid HM)
    · have := wide_ge hX.1 hY.1 hZ.1 (.inr hy)
      rw [if_neg (by omega)] at hfr
      rw [hfr]
      subst hx
      exact over_b _ _ _ _ _ _ _ _ _ _ _ _ _ _ _ _ _ _ _ _ _ _ _ _ _ _ _ w b1 b2 b3 b4 b5 b6 b7 b8 (by simp) (by simpa using hy) (hid D1) (hid G1) (hid D2) (hid E1) (hid D3) (hid G2) (hid D4) (hid E2) (hid HM)
  · have := wide_ge hX.1 hY.1 hZ.1 (.inl hx)
    rw [if_neg (by omega)] at hfr
    rw [hfr]
    exact over_a _ _ _ _ _ _ _ _ _ _ _ _ _ _ _ _ _ _ _ _ _ _ _ _ _ _ _ w b1 b2 b3 b4 b5 b6 b7 b8 (by simpa using hx) (hid D1) (hid G1) (hid D2) (hid E1) (hid D3) (hid G2) (hid D4) (hid E2) (hid HM)
theorem wide_mul (x : Int) : wideN 0 (x / 18446744073709551616) (x % 18446744073709551616) = x := by unfold wideN; omega
theorem word_div {x : Int} (h0 : 0 ≤ x) (h1 : x ≤ 18446744073709551615 * 18446744073709551615) : (0 ≤ x / 18446744073709551616 ∧ x / 18446744073709551616 ≤ 18446744073709551615) ∧ (0 ≤ x % 18446744073709551616 ∧ x % 18446744073709551616 ≤ 18446744073709551615) := by omega
theorem mul_wd {x y : Int} (h0 : 0 ≤ x) (h1 : x ≤ 18446744073709551615) (h2 : 0 ≤ y) (h3 : y ≤ 18446744073709551615) : 0 ≤ x * y ∧ x * y ≤ 18446744073709551615 * 18446744073709551615 := ⟨Int.mul_nonneg h0 h2, Int.mul_le_mul h1 h3 h2 (by omega)⟩
def sumF (m : Bool) (an ad bn bd : Int) : (Int × Int) × Int := if m then fracR (an * bd - bn * ad) (ad * bd) else fracR (an * bd + bn * ad) (ad * bd)
theorem sum_any (m : Bool) (an ad bn bd : Int) (w : World) (an0 : 0 ≤ an) (an1 : an ≤ 18446744073709551615) (ad0 : 0 ≤ ad) (ad1 : ad ≤ 18446744073709551615) (bn0 : 0 ≤ bn) (bn1 : bn ≤ 18446744073709551615) (bd0 : 0 ≤ bd) (bd1 : bd ≤ 18446744073709551615) (ha : ad ≠ 0) (hb : bd ≠ 0) (hle : m = true → bn * ad ≤ an * bd) :
    Calls Try.prog 28 #[.agg #[.int .u64 an, .int .u64 ad], .agg #[.int .u64 bn, .int .u64 bd], .bool m] w fun e w' => e = .returned (.tuple #[.agg #[.int .u64 (sumF m an ad bn bd).1.1, .int .u64 (sumF m an ad bn bd).1.2], .int .i64 (sumF m an ad bn bd).2]) ∧ Below w.heap.size w w' := by
  have d0 : 0 < ad := by omega
  have d1 : 0 < bd := by omega
  have H1 := fun W => lowest_any an ad W an0 an1 d0 ad1
  have H2 := fun W => lowest_any bn bd W bn0 bn1 d1 bd1
  have xle : an / gc an ad ≤ an := Int.ediv_le_self _ an0
  have zle : bn / gc bn bd ≤ bn := Int.ediv_le_self _ bn0
  have yle : ad / gc an ad ≤ ad := Int.ediv_le_self _ ad0
  have tle : bd / gc bn bd ≤ bd := Int.ediv_le_self _ bd0
  obtain ⟨x0, y0, z0, t0, g0, t'0, y'0, t'le, y'le, hadd, hsub⟩ := sum_law an0 d0 bn0 d1 rfl rfl rfl rfl rfl rfl rfl
  generalize an / gc an ad = x at *
  generalize ad / gc an ad = y at *
  generalize bn / gc bn bd = z at *
  generalize bd / gc bn bd = t at *
  have HG := fun W => gcd_any y t W (by omega) (by omega) (by omega) (by omega)
  generalize gc y t = g at *
  have E1 := quo_w (x := t) (by omega) (by omega) g0
  have E2 := quo_w (x := y) (by omega) (by omega) g0
  generalize ht' : t / g = t' at *
  generalize hy' : y / g = y' at *
  have k1 := mul_wd (x := x) (y := t') x0 (by omega) (by omega) (by omega)
  have k2 := mul_wd (x := z) (y := y') z0 (by omega) (by omega) (by omega)
  have HT1 := fun W => wtimes_any x t' W x0 (by omega) (by omega) (by omega)
  have HT2 := fun W => wtimes_any z y' W z0 (by omega) (by omega) (by omega)
  have e1 := wide_mul (x * t')
  have e2 := wide_mul (z * y')
  obtain ⟨⟨i1, i2⟩, i3, i4⟩ := word_div k1.1 k1.2
  obtain ⟨⟨j1, j2⟩, j3, j4⟩ := word_div k2.1 k2.2
  generalize x * t' / 18446744073709551616 = p1 at *
  generalize x * t' % 18446744073709551616 = p2 at *
  generalize z * y' / 18446744073709551616 = q1 at *
  generalize z * y' % 18446744073709551616 = q2 at *
  obtain ⟨s0, s1, s2, S0, S1, S2, hs, HP⟩ := wplus_any p1 p2 q1 q2 i1 i2 i3 i4 j1 j2 j3 j4
  rw [e1, e2] at hs
  have hne : (g == 0) = false := by simp; omega
  cases m
  · have HO := fun W => over_any s0 s1 s2 y t' W S0.1 S0.2 S1.1 S1.2 S2.1 S2.2 y0 (by omega) t'0 (by omega)
    rw [hs, ← hadd] at HO
    exact sum_a an ad bn bd x y z t g t' y' p1 p2 q1 q2 s0 s1 s2 0 0 0 _ _ _ w (by omega) (by omega) (by omega) hne (hid H1) (hid H2) (hid HG) (hid E1) (hid E2) (hid ht') (hid hy') (by omega) (by omega) (hid HT1) (hid HT2) (hid HP) (hid HO)
  · obtain ⟨hl, hfr⟩ := hsub (hle rfl)
    obtain ⟨m0, m1, m2, M0, M1, M2, hm, HMM⟩ := wminus_any p1 p2 q1 q2 i1 i2 i3 i4 j1 j2 j3 j4 (by rw [e1, e2]; exact hl)
    rw [e1, e2] at hm
    have HO := fun W => over_any m0 m1 m2 y t' W M0.1 M0.2 M1.1 M1.2 M2.1 M2.2 y0 (by omega) t'0 (by omega)
    rw [hm, ← hfr] at HO
    exact sum_s an ad bn bd x y z t g t' y' p1 p2 q1 q2 s0 s1 s2 m0 m1 m2 _ _ _ w (by omega) (by omega) (by omega) hne (hid H1) (hid H2) (hid HG) (hid E1) (hid E2) (hid ht') (hid hy') (by omega) (by omega) (hid HT1) (hid HT2) (hid HP) (hid HMM) (hid HO)
theorem addF_any (an ad bn bd : Int) (w : World) (an0 : 0 ≤ an) (an1 : an ≤ 18446744073709551615) (ad0 : 0 ≤ ad) (ad1 : ad ≤ 18446744073709551615) (bn0 : 0 ≤ bn) (bn1 : bn ≤ 18446744073709551615) (bd0 : 0 ≤ bd) (bd1 : bd ≤ 18446744073709551615) : Calls Try.prog 15 #[.agg #[.int .u64 an, .int .u64 ad], .agg #[.int .u64 bn, .int .u64 bd]] w fun e w' => e = .returned (.tuple #[.agg #[.int .u64 (addF an ad bn bd).1.1, .int .u64 (addF an ad bn bd).1.2], .int .i64 (addF an ad bn bd).2]) ∧ Below w.heap.size w w' := by
  by_cases h1 : ad = 0
  · have e : addF an ad bn bd = ((0, 0), 4) := by unfold addF; rw [if_pos (.inl h1)]
    rw [e]; exact add_z1 an ad bn bd w (by simpa using h1)
  by_cases h2 : bd = 0
  · have e : addF an ad bn bd = ((0, 0), 4) := by unfold addF; rw [if_pos (.inr h2)]
    rw [e]; exact add_z2 an ad bn bd w (by simpa using h1) (by simpa using h2)
  · have e : addF an ad bn bd = sumF false an ad bn bd := by unfold addF sumF; rw [if_neg (by omega)]; rfl
    rw [e]
    exact add_w an ad bn bd _ _ _ w (by simpa using h1) (by simpa using h2) (hid fun W => sum_any false an ad bn bd W an0 an1 ad0 ad1 bn0 bn1 bd0 bd1 h1 h2 (by simp))
theorem subF_any (an ad bn bd : Int) (w : World) (an0 : 0 ≤ an) (an1 : an ≤ 18446744073709551615) (ad0 : 0 ≤ ad) (ad1 : ad ≤ 18446744073709551615) (bn0 : 0 ≤ bn) (bn1 : bn ≤ 18446744073709551615) (bd0 : 0 ≤ bd) (bd1 : bd ≤ 18446744073709551615) : Calls Try.prog 18 #[.agg #[.int .u64 an, .int .u64 ad], .agg #[.int .u64 bn, .int .u64 bd]] w fun e w' => e = .returned (.tuple #[.agg #[.int .u64 (subF an ad bn bd).1.1, .int .u64 (subF an ad bn bd).1.2], .int .i64 (subF an ad bn bd).2]) ∧ Below w.heap.size w w' := by
  have hc := fun W => cmpR_any an ad bn bd W an0 an1 ad0 ad1 bn0 bn1 bd0 bd1
  by_cases h1 : ad = 0 ∨ bd = 0
  · have e : subF an ad bn bd = ((0, 0), 4) := by unfold subF; rw [if_pos h1]
    have e2 : cmpR an ad bn bd = (0, 4) := by unfold cmpR; rw [if_pos h1]
    rw [e2] at hc
    rw [e]; exact sub_e an ad bn bd 0 4 w (by simp) (hid hc)
  · have e2 : cmpR an ad bn bd = (cmpZ (an * bd) (bn * ad), 0) := by unfold cmpR; rw [if_neg h1]
    rw [e2] at hc
    by_cases h2 : an * bd < bn * ad
    · have e : subF an ad bn bd = ((0, 0), 2) := by unfold subF; rw [if_neg h1, if_pos h2]
      have e3 : cmpZ (an * bd) (bn * ad) = -1 := by unfold cmpZ; rw [if_pos h2]
      rw [e3] at hc
      rw [e]; exact sub_n an ad bn bd (-1) w (by omega) (hid hc)
    · have e : subF an ad bn bd = sumF true an ad bn bd := by unfold subF sumF; rw [if_neg h1, if_neg h2]; rfl
      rw [e]
      exact sub_w an ad bn bd _ _ _ _ w ((cmpZ_ge _ _).2 (by omega)) (hid hc) (hid fun W => sum_any true an ad bn bd W an0 an1 ad0 ad1 bn0 bn1 bd0 bd1 (by omega) (by omega) (fun _ => by omega))
theorem mulF_any (an ad bn bd : Int) (w : World) (an0 : 0 ≤ an) (an1 : an ≤ 18446744073709551615) (ad0 : 0 ≤ ad) (ad1 : ad ≤ 18446744073709551615) (bn0 : 0 ≤ bn) (bn1 : bn ≤ 18446744073709551615) (bd0 : 0 ≤ bd) (bd1 : bd ≤ 18446744073709551615) : Calls Try.prog 16 #[.agg #[.int .u64 an, .int .u64 ad], .agg #[.int .u64 bn, .int .u64 bd]] w fun e w' => e = .returned (.tuple #[.agg #[.int .u64 (mulF an ad bn bd).1.1, .int .u64 (mulF an ad bn bd).1.2], .int .i64 (mulF an ad bn bd).2]) ∧ Below w.heap.size w w' := by
  by_cases h1 : ad = 0
  · have e : mulF an ad bn bd = ((0, 0), 4) := by unfold mulF; rw [if_pos (.inl h1)]
    rw [e]; exact mul_z1 an ad bn bd w (by simpa using h1)
  by_cases h2 : bd = 0
  · have e : mulF an ad bn bd = ((0, 0), 4) := by unfold mulF; rw [if_pos (.inr h2)]
    rw [e]; exact mul_z2 an ad bn bd w (by simpa using h1) (by simpa using h2)
  have d0 : 0 < ad := by omega
  have d1 : 0 < bd := by omega
  have e : mulF an ad bn bd = fracR (an * bn) (ad * bd) := by unfold mulF; rw [if_neg (by omega)]
  obtain ⟨hfr, hc, pr0, qs0⟩ := mul_law an0 d0 bn0 d1 rfl rfl rfl rfl rfl rfl rfl rfl
  rw [e, hfr]
  clear e hfr
  have H1 := fun W => lowest_any an ad W an0 an1 d0 ad1
  have H2 := fun W => lowest_any bn bd W bn0 bn1 d1 bd1
  have x0 : 0 ≤ an / gc an ad := low_nonneg an0 d0
  have y0 : 0 < ad / gc an ad := low_pos d0
  have z0 : 0 ≤ bn / gc bn bd := low_nonneg bn0 d1
  have t0 : 0 < bd / gc bn bd := low_pos d1
  have xle : an / gc an ad ≤ an := Int.ediv_le_self _ an0
  have zle : bn / gc bn bd ≤ bn := Int.ediv_le_self _ bn0
  have yle : ad / gc an ad ≤ ad := Int.ediv_le_self _ ad0
  have tle : bd / gc bn bd ≤ bd := Int.ediv_le_self _ bd0
  generalize an / gc an ad = x at *
  generalize ad / gc an ad = y at *
  generalize bn / gc bn bd = z at *
  generalize bd / gc bn bd = t at *
  have H3 := fun W => lowest_any x t W x0 (by omega) t0 (by omega)
  have H4 := fun W => lowest_any z y W z0 (by omega) y0 (by omega)
  have p0 : 0 ≤ x / gc x t := low_nonneg x0 t0
  have q0 : 0 < t / gc x t := low_pos t0
  have r0 : 0 ≤ z / gc z y := low_nonneg z0 y0
  have s0 : 0 < y / gc z y := low_pos y0
  have ple : x / gc x t ≤ x := Int.ediv_le_self _ x0
  have qle : t / gc x t ≤ t := Int.ediv_le_self _ (by omega)
  have rle : z / gc z y ≤ z := Int.ediv_le_self _ z0
  have sle : y / gc z y ≤ y := Int.ediv_le_self _ (by omega)
  generalize x / gc x t = p at *
  generalize t / gc x t = q at *
  generalize z / gc z y = r at *
  generalize y / gc z y = s at *
  have M1 : ∀ W, Calls Try.prog 22 #[.int .u64 p, .int .u64 r] W fun e w' => e = .returned (.tuple #[.int .u64 (p * r / 18446744073709551616), .int .u64 (p * r % 18446744073709551616)]) ∧ Below W.heap.size W w' := fun W => (mul_any p r W p0 (by omega) r0 (by omega)).mono fun e w' ⟨he, hw⟩ => ⟨he, hw ▸ Below.refl _ _⟩
  have M2 : ∀ W, Calls Try.prog 22 #[.int .u64 q, .int .u64 s] W fun e w' => e = .returned (.tuple #[.int .u64 (q * s / 18446744073709551616), .int .u64 (q * s % 18446744073709551616)]) ∧ Below W.heap.size W w' := fun W => (mul_any q s W (by omega) (by omega) (by omega) (by omega)).mono fun e w' ⟨he, hw⟩ => ⟨he, hw ▸ Below.refl _ _⟩
  generalize p * r = m at *
  generalize q * s = k at *
  have hp : (ad == 0) = false := by simpa using h1
  have hq : (bd == 0) = false := by simpa using h2
  by_cases ho : m / 18446744073709551616 = 0
  · by_cases ho2 : k / 18446744073709551616 = 0
    · have em : m % 18446744073709551616 = m := by omega
      have ek : k % 18446744073709551616 = k := by omega
      rw [if_pos ⟨by omega, by omega⟩]
      rw [em, ho] at M1
      rw [ek, ho2] at M2
      exact mul_w an ad bn bd x y z t p q r s 0 m 0 k w (by simp) (by simp) hp hq (hid H1) (hid H2) (hid H3) (hid H4) (hid M1) (hid M2) (hid fun W => lowest_cop m k W pr0 (by omega) qs0 (by omega) hc)
    · rw [if_neg (by omega)]
      rw [ho] at M1
      exact mul_o2 an ad bn bd x y z t p q r s 0 _ _ _ w (by simp) (by simpa using ho2) hp hq (hid H1) (hid H2) (hid H3) (hid H4) (hid M1) (hid M2)
  · rw [if_neg (by omega)]
    exact mul_o1 an ad bn bd x y z t p q r s _ _ _ _ w (by simpa using ho) hp hq (hid H1) (hid H2) (hid H3) (hid H4) (hid M1) (hid M2)
end Go.Proofs.Ytbkopmgfkokmgaa
