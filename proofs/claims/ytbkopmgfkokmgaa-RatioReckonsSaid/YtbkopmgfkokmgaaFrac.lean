/- The plain law of sums, differences and products of fractions: lowest terms, and what is refused. No program is in sight. -/
import Derived.Test.YtbkopmgfkokmgaaOrd
namespace Go.Proofs.Ytbkopmgfkokmgaa
/-- Two numbers without a common divisor. -/
def Cop (a b : Int) : Prop := gc a b = 1
theorem gc_nat (a b : Nat) : gc (a : Int) (b : Int) = (Nat.gcd a b : Int) := by unfold gc; rw [Int.gcd_natCast_natCast]
theorem gc_dvd_l (a b : Int) : gc a b ∣ a := Int.gcd_dvd_left a b
theorem gc_dvd_r (a b : Int) : gc a b ∣ b := Int.gcd_dvd_right a b
/-- What is lowered has no common divisor. -/
theorem low_cop {n d : Int} (hn : 0 ≤ n) (hd : 0 < d) : Cop (n / gc n d) (d / gc n d) := by
  obtain ⟨a, rfl⟩ := Int.eq_ofNat_of_zero_le hn
  obtain ⟨b, rfl⟩ := Int.eq_ofNat_of_zero_le (Int.le_of_lt hd)
  have hb : 0 < b := by omega
  unfold Cop
  rw [gc_nat, ← Int.natCast_ediv, ← Int.natCast_ediv, gc_nat]
  have := Nat.coprime_div_gcd_div_gcd (m := a) (n := b) (Nat.gcd_pos_of_pos_right a hb)
  unfold Nat.Coprime at this
  rw [this]; rfl
theorem low_mul {n d : Int} : n / gc n d * gc n d = n ∧ d / gc n d * gc n d = d :=
  ⟨Int.ediv_mul_cancel (gc_dvd_l n d), Int.ediv_mul_cancel (gc_dvd_r n d)⟩
theorem low_pos {n d : Int} (hd : 0 < d) : 0 < d / gc n d := by
  have h := (low_mul (n := n) (d := d)).2
  have hg := gc_pos (a := n) hd
  rcases Int.lt_or_le 0 (d / gc n d) with h1 | h1
  · exact h1
  · exfalso
    have := Int.mul_le_mul_of_nonneg_right h1 (Int.le_of_lt hg)
    omega
theorem low_nonneg {n d : Int} (hn : 0 ≤ n) (hd : 0 < d) : 0 ≤ n / gc n d := Int.ediv_nonneg hn (Int.le_of_lt (gc_pos hd))
/-- The lowest form of one fraction is unique. -/
theorem cop_unique {n d n' d' : Int} (hn : 0 ≤ n) (hd : 0 < d) (hn' : 0 ≤ n') (hd' : 0 < d') (c : Cop n d) (c' : Cop n' d') (h : n * d' = n' * d) : n = n' ∧ d = d' := by
  obtain ⟨n, rfl⟩ := Int.eq_ofNat_of_zero_le hn
  obtain ⟨d, rfl⟩ := Int.eq_ofNat_of_zero_le (Int.le_of_lt hd)
  obtain ⟨n', rfl⟩ := Int.eq_ofNat_of_zero_le hn'
  obtain ⟨d', rfl⟩ := Int.eq_ofNat_of_zero_le (Int.le_of_lt hd')
  unfold Cop at c c'
  rw [gc_nat] at c c'
  have c1 : Nat.gcd n d = 1 := by omega
  have c2 : Nat.gcd n' d' = 1 := by omega
  have h1 : n * d' = n' * d := by rw [← Int.natCast_mul, ← Int.natCast_mul] at h; exact Int.ofNat.inj h
  have a1 : d ∣ d' := (Nat.Coprime.dvd_of_dvd_mul_left (Nat.Coprime.symm c1) ⟨n', by rw [h1, Nat.mul_comm]⟩)
  have a2 : d' ∣ d := (Nat.Coprime.dvd_of_dvd_mul_left (Nat.Coprime.symm c2) ⟨n, by rw [← h1, Nat.mul_comm]⟩)
  have e := Nat.dvd_antisymm a1 a2
  subst e
  have : n = n' := Nat.eq_of_mul_eq_mul_right (by omega) h1
  subst this
  exact ⟨rfl, rfl⟩
theorem low_eq {n d n' d' : Int} (hn : 0 ≤ n) (hd : 0 < d) (hn' : 0 ≤ n') (hd' : 0 < d') (h : n * d' = n' * d) : n / gc n d = n' / gc n' d' ∧ d / gc n d = d' / gc n' d' := by
  refine cop_unique (low_nonneg hn hd) (low_pos hd) (low_nonneg hn' hd') (low_pos hd') (low_cop hn hd) (low_cop hn' hd') ?_
  obtain ⟨e1, e2⟩ := low_mul (n := n) (d := d)
  obtain ⟨e3, e4⟩ := low_mul (n := n') (d := d')
  have g1 := gc_pos (a := n) hd
  have g2 := gc_pos (a := n') hd'
  generalize n / gc n d = x at *
  generalize d / gc n d = y at *
  generalize n' / gc n' d' = z at *
  generalize d' / gc n' d' = t at *
  generalize gc n d = g at *
  generalize gc n' d' = k at *
  subst e1 e2 e3 e4
  have h2 : x * t * (g * k) = z * y * (g * k) := by
    have a : x * g * (t * k) = x * t * (g * k) := by ac_rfl
    have b : z * k * (y * g) = z * y * (g * k) := by ac_rfl
    rw [← a, ← b, h]
  exact Int.eq_of_mul_eq_mul_right (by have := Int.mul_pos g1 g2; omega) h2
theorem low_self {n d : Int} (hn : 0 ≤ n) (hd : 0 < d) (c : Cop n d) : n / gc n d = n ∧ d / gc n d = d := by
  unfold Cop at c
  rw [c]; exact ⟨Int.ediv_one n, Int.ediv_one d⟩
/-- The lowest form, where both parts are words; else refused. -/
def fracR (n d : Int) : (Int × Int) × Int := if n / gc n d ≤ 18446744073709551615 ∧ d / gc n d ≤ 18446744073709551615 then ((n / gc n d, d / gc n d), 0) else ((0, 0), 7)
theorem fracR_eq {n d n' d' : Int} (hn : 0 ≤ n) (hd : 0 < d) (hn' : 0 ≤ n') (hd' : 0 < d') (h : n * d' = n' * d) : fracR n d = fracR n' d' := by
  obtain ⟨e1, e2⟩ := low_eq hn hd hn' hd' h
  unfold fracR; rw [e1, e2]
theorem fracR_cop {n d : Int} (hn : 0 ≤ n) (hd : 0 < d) (c : Cop n d) : fracR n d = if n ≤ 18446744073709551615 ∧ d ≤ 18446744073709551615 then ((n, d), 0) else ((0, 0), 7) := by
  obtain ⟨e1, e2⟩ := low_self hn hd c
  unfold fracR; rw [e1, e2]
/-- What is answered: both parts are words, the second isn't nought, and they have no common divisor. -/
theorem fracR_ok {n d x y : Int} (hn : 0 ≤ n) (hd : 0 < d) (h : fracR n d = ((x, y), 0)) : 0 ≤ x ∧ x ≤ 18446744073709551615 ∧ 0 < y ∧ y ≤ 18446744073709551615 ∧ Cop x y ∧ x * d = n * y := by
  unfold fracR at h
  split at h
  · rename_i hb
    simp only [Prod.mk.injEq, and_true] at h
    obtain ⟨rfl, rfl⟩ := h
    refine ⟨low_nonneg hn hd, hb.1, low_pos hd, hb.2, low_cop hn hd, ?_⟩
    obtain ⟨e1, e2⟩ := low_mul (n := n) (d := d)
    generalize n / gc n d = x at *
    generalize d / gc n d = y at *
    generalize gc n d = g at *
    subst e1 e2
    ac_rfl
  · simp at h
theorem fracR_err {n d : Int} : (fracR n d).2 = 0 ∨ fracR n d = ((0, 0), 7) := by
  unfold fracR; split
  · exact .inl rfl
  · exact .inr rfl
def addF (an ad bn bd : Int) : (Int × Int) × Int := if ad = 0 ∨ bd = 0 then ((0, 0), 4) else fracR (an * bd + bn * ad) (ad * bd)
def subF (an ad bn bd : Int) : (Int × Int) × Int := if ad = 0 ∨ bd = 0 then ((0, 0), 4) else if an * bd < bn * ad then ((0, 0), 2) else fracR (an * bd - bn * ad) (ad * bd)
def mulF (an ad bn bd : Int) : (Int × Int) × Int := if ad = 0 ∨ bd = 0 then ((0, 0), 4) else fracR (an * bn) (ad * bd)
theorem addF_comm (an ad bn bd : Int) : addF an ad bn bd = addF bn bd an ad := by
  unfold addF
  rw [Int.add_comm, Int.mul_comm ad bd]
  by_cases h : ad = 0 ∨ bd = 0
  · rw [if_pos h, if_pos h.symm]
  · rw [if_neg h, if_neg (fun h' => h h'.symm)]
theorem mulF_comm (an ad bn bd : Int) : mulF an ad bn bd = mulF bn bd an ad := by
  unfold mulF
  rw [Int.mul_comm an, Int.mul_comm ad bd]
  by_cases h : ad = 0 ∨ bd = 0
  · rw [if_pos h, if_pos h.symm]
  · rw [if_neg h, if_neg (fun h' => h h'.symm)]
/-- Coprime to both is coprime to the product. -/
theorem cop_mul_r {a b c : Int} (ha : 0 ≤ a) (hb : 0 ≤ b) (hc : 0 ≤ c) (h1 : Cop a b) (h2 : Cop a c) : Cop a (b * c) := by
  obtain ⟨a, rfl⟩ := Int.eq_ofNat_of_zero_le ha
  obtain ⟨b, rfl⟩ := Int.eq_ofNat_of_zero_le hb
  obtain ⟨c, rfl⟩ := Int.eq_ofNat_of_zero_le hc
  unfold Cop at *
  rw [gc_nat] at h1 h2
  rw [← Int.natCast_mul, gc_nat]
  have h3 : Nat.gcd a b = 1 := by omega
  have h4 : Nat.gcd a c = 1 := by omega
  have : Nat.gcd a (b * c) = 1 := Nat.Coprime.mul_right h3 h4
  omega
theorem cop_comm {a b : Int} (h : Cop a b) : Cop b a := by unfold Cop gc at *; rw [Int.gcd_comm]; exact h
/-- A divisor of one of two without a common divisor has none with the other. -/
theorem cop_dvd {a b x : Int} (ha : 0 ≤ a) (hb : 0 ≤ b) (hx : 0 ≤ x) (h : Cop a b) (hd : x ∣ a) : Cop x b := by
  obtain ⟨a, rfl⟩ := Int.eq_ofNat_of_zero_le ha
  obtain ⟨b, rfl⟩ := Int.eq_ofNat_of_zero_le hb
  obtain ⟨x, rfl⟩ := Int.eq_ofNat_of_zero_le hx
  unfold Cop at *
  rw [gc_nat] at *
  have h1 : Nat.gcd a b = 1 := by omega
  have h2 : Nat.gcd x b = 1 := Nat.Coprime.coprime_dvd_left (Int.natCast_dvd_natCast.1 hd) h1
  omega
theorem low_dvd_l (n d : Int) : n / gc n d ∣ n := ⟨gc n d, by rw [(low_mul (n := n) (d := d)).1]⟩
theorem low_dvd_r (n d : Int) : d / gc n d ∣ d := ⟨gc n d, by rw [(low_mul (n := n) (d := d)).2]⟩
/-- The program's product: each lowered, and lowered crosswise. -/
theorem mul_law {an ad bn bd : Int} (h1 : 0 ≤ an) (h2 : 0 < ad) (h3 : 0 ≤ bn) (h4 : 0 < bd) {x y z t p q r s : Int}
    (hx : an / gc an ad = x) (hy : ad / gc an ad = y) (hz : bn / gc bn bd = z) (ht : bd / gc bn bd = t)
    (hp : x / gc x t = p) (hq : t / gc x t = q) (hr : z / gc z y = r) (hs : y / gc z y = s) :
    fracR (an * bn) (ad * bd) = (if p * r ≤ 18446744073709551615 ∧ q * s ≤ 18446744073709551615 then ((p * r, q * s), 0) else ((0, 0), 7)) ∧ Cop (p * r) (q * s) ∧ 0 ≤ p * r ∧ 0 < q * s := by
  have x0 : 0 ≤ x := hx ▸ low_nonneg h1 h2
  have y0 : 0 < y := hy ▸ low_pos h2
  have z0 : 0 ≤ z := hz ▸ low_nonneg h3 h4
  have t0 : 0 < t := ht ▸ low_pos h4
  have cxy : Cop x y := by rw [← hx, ← hy]; exact low_cop h1 h2
  have czt : Cop z t := by rw [← hz, ← ht]; exact low_cop h3 h4
  have p0 : 0 ≤ p := hp ▸ low_nonneg x0 t0
  have q0 : 0 < q := hq ▸ low_pos t0
  have r0 : 0 ≤ r := hr ▸ low_nonneg z0 y0
  have s0 : 0 < s := hs ▸ low_pos y0
  have cpq : Cop p q := by rw [← hp, ← hq]; exact low_cop x0 t0
  have crs : Cop r s := by rw [← hr, ← hs]; exact low_cop z0 y0
  have dp : p ∣ x := hp ▸ low_dvd_l x t
  have dq : q ∣ t := hq ▸ low_dvd_r x t
  have dr : r ∣ z := hr ▸ low_dvd_l z y
  have ds : s ∣ y := hs ▸ low_dvd_r z y
  have cps : Cop p s := cop_dvd x0 (by omega) p0 (cop_comm (cop_dvd (by omega) x0 (by omega) (cop_comm cxy) ds)) dp
  have crq : Cop r q := cop_dvd z0 (by omega) r0 (cop_comm (cop_dvd (by omega) z0 (by omega) (cop_comm czt) dq)) dr
  have c1 : Cop p (q * s) := cop_mul_r p0 (by omega) (by omega) cpq cps
  have c2 : Cop r (q * s) := cop_mul_r r0 (by omega) (by omega) crq crs
  have qs0 : 0 < q * s := Int.mul_pos q0 s0
  have pr0 : 0 ≤ p * r := Int.mul_nonneg p0 r0
  have c : Cop (p * r) (q * s) := cop_comm (cop_mul_r (by omega) p0 r0 (cop_comm c1) (cop_comm c2))
  refine ⟨?_, c, pr0, qs0⟩
  rw [← fracR_cop pr0 qs0 c]
  refine fracR_eq (Int.mul_nonneg h1 h3) (Int.mul_pos h2 h4) pr0 qs0 ?_
  obtain ⟨e1, e2⟩ := low_mul (n := an) (d := ad)
  obtain ⟨e3, e4⟩ := low_mul (n := bn) (d := bd)
  obtain ⟨e5, e6⟩ := low_mul (n := x) (d := t)
  obtain ⟨e7, e8⟩ := low_mul (n := z) (d := y)
  rw [hx] at e1; rw [hy] at e2; rw [hz] at e3; rw [ht] at e4; rw [hp] at e5; rw [hq] at e6; rw [hr] at e7; rw [hs] at e8
  generalize gc an ad = g1 at *
  generalize gc bn bd = g2 at *
  generalize gc x t = g3 at *
  generalize gc z y = g4 at *
  rw [← e1, ← e2, ← e3, ← e4, ← e5, ← e6, ← e7, ← e8]
  ac_rfl
/-- The program's long fraction: what the top shares with one factor of the bottom is taken out, then what it shares with the other. -/
theorem over_law {n p q : Int} (hn : 0 ≤ n) (hp : 0 < p) (hq : 0 < q) {n1 p1 n2 q1 : Int} (h1 : n / gc n p = n1) (h2 : p / gc n p = p1) (h3 : n1 / gc n1 q = n2) (h4 : q / gc n1 q = q1) :
    fracR n (p * q) = (if n2 ≤ 18446744073709551615 ∧ p1 * q1 ≤ 18446744073709551615 then ((n2, p1 * q1), 0) else ((0, 0), 7)) ∧ Cop n2 (p1 * q1) ∧ 0 ≤ n2 ∧ 0 < p1 ∧ 0 < q1 := by
  have a0 : 0 ≤ n1 := h1 ▸ low_nonneg hn hp
  have a1 : 0 < p1 := h2 ▸ low_pos hp
  have a2 : 0 ≤ n2 := h3 ▸ low_nonneg a0 hq
  have a3 : 0 < q1 := h4 ▸ low_pos hq
  have c1 : Cop n1 p1 := by rw [← h1, ← h2]; exact low_cop hn hp
  have c2 : Cop n2 q1 := by rw [← h3, ← h4]; exact low_cop a0 hq
  have d1 : n2 ∣ n1 := h3 ▸ low_dvd_l n1 q
  have c3 : Cop n2 p1 := cop_dvd a0 (by omega) a2 c1 d1
  have c : Cop n2 (p1 * q1) := cop_mul_r a2 (by omega) (by omega) c3 c2
  have pq : 0 < p1 * q1 := Int.mul_pos a1 a3
  refine ⟨?_, c, a2, a1, a3⟩
  rw [← fracR_cop a2 pq c]
  refine fracR_eq hn (Int.mul_pos hp hq) a2 pq ?_
  obtain ⟨e1, e2⟩ := low_mul (n := n) (d := p)
  obtain ⟨e3, e4⟩ := low_mul (n := n1) (d := q)
  rw [h1] at e1; rw [h2] at e2; rw [h3] at e3; rw [h4] at e4
  generalize gc n p = g1 at *
  generalize gc n1 q = g2 at *
  rw [← e1, ← e2, ← e4, ← e3]
  ac_rfl
/-- The common bottom of two that are lowered. -/
theorem sum_law {an ad bn bd : Int} (h1 : 0 ≤ an) (h2 : 0 < ad) (h3 : 0 ≤ bn) (h4 : 0 < bd) {x y z t g t' y' : Int}
    (hx : an / gc an ad = x) (hy : ad / gc an ad = y) (hz : bn / gc bn bd = z) (ht : bd / gc bn bd = t) (hg : gc y t = g) (ht' : t / g = t') (hy' : y / g = y') :
    0 ≤ x ∧ 0 < y ∧ 0 ≤ z ∧ 0 < t ∧ 0 < g ∧ 0 < t' ∧ 0 < y' ∧ t' ≤ t ∧ y' ≤ y ∧ fracR (an * bd + bn * ad) (ad * bd) = fracR (x * t' + z * y') (y * t') ∧
      (bn * ad ≤ an * bd → z * y' ≤ x * t' ∧ fracR (an * bd - bn * ad) (ad * bd) = fracR (x * t' - z * y') (y * t')) := by
  have x0 : 0 ≤ x := hx ▸ low_nonneg h1 h2
  have y0 : 0 < y := hy ▸ low_pos h2
  have z0 : 0 ≤ z := hz ▸ low_nonneg h3 h4
  have t0 : 0 < t := ht ▸ low_pos h4
  have g0 : 0 < g := hg ▸ gc_pos t0
  obtain ⟨e1, e2⟩ := low_mul (n := an) (d := ad)
  obtain ⟨e3, e4⟩ := low_mul (n := bn) (d := bd)
  have e5 : t' * g = t := by rw [← ht', ← hg]; exact Int.ediv_mul_cancel (gc_dvd_r y t)
  have e6 : y' * g = y := by rw [← hy', ← hg]; exact Int.ediv_mul_cancel (gc_dvd_l y t)
  have t1 : 0 < t' := by
    rcases Int.lt_or_le 0 t' with h | h
    · exact h
    · have := Int.mul_le_mul_of_nonneg_right h (Int.le_of_lt g0); omega
  have y1 : 0 < y' := by
    rcases Int.lt_or_le 0 y' with h | h
    · exact h
    · have := Int.mul_le_mul_of_nonneg_right h (Int.le_of_lt g0); omega
  have t2 : t' ≤ t := by rw [← ht']; exact Int.ediv_le_self _ (by omega)
  have y2 : y' ≤ y := by rw [← hy']; exact Int.ediv_le_self _ (by omega)
  have k1 := gc_pos (a := an) h2
  have k2 := gc_pos (a := bn) h4
  rw [hx] at e1; rw [hy] at e2; rw [hz] at e3; rw [ht] at e4
  generalize gc an ad = u at *
  generalize gc bn bd = v at *
  have f1 : an * bd = x * t' * (u * g * v) := by rw [← e1, ← e4, ← e5]; ac_rfl
  have f2 : bn * ad = z * y' * (u * g * v) := by rw [← e3, ← e2, ← e6]; ac_rfl
  have f3 : ad * bd = y * t' * (u * g * v) := by rw [← e2, ← e4, ← e5]; ac_rfl
  have k0 : 0 < u * g * v := Int.mul_pos (Int.mul_pos k1 g0) k2
  have a0 : 0 ≤ x * t' := Int.mul_nonneg x0 (by omega)
  have b0 : 0 ≤ z * y' := Int.mul_nonneg z0 (by omega)
  have c0 : 0 < y * t' := Int.mul_pos y0 t1
  refine ⟨x0, y0, z0, t0, g0, t1, y1, t2, y2, ?_, ?_⟩
  · rw [f1, f2, f3, ← Int.add_mul]
    have m0 : 0 ≤ x * t' + z * y' := by omega
    generalize x * t' + z * y' = m at *
    refine fracR_eq (Int.mul_nonneg (by omega) (by omega)) (Int.mul_pos c0 k0) (by omega) c0 ?_
    ac_rfl
  · intro hle
    rw [f1, f2] at hle
    have h5 : z * y' ≤ x * t' := Int.le_of_mul_le_mul_right hle k0
    refine ⟨h5, ?_⟩
    rw [f1, f2, f3, ← Int.sub_mul]
    refine fracR_eq (Int.mul_nonneg (by omega) (by omega)) (Int.mul_pos c0 k0) (by omega) c0 ?_
    generalize x * t' - z * y' = m at *
    ac_rfl
end Go.Proofs.Ytbkopmgfkokmgaa
