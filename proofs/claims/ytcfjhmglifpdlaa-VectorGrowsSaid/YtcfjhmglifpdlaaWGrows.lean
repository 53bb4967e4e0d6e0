/- The walk of VectorGrows: what takes more has no less a share, and a greater weight no greater one. No condition. -/
import Derived.Test.YtcfjhmglifpdlaaWGro1
import Derived.Test.YtcfjhmglifpdlaaWGro3
import Derived.Test.YtcfjhmglifpdlaaWGro4
namespace Go.Proofs.Ytcfjhmglifpdlaa
open Go.RowKit
theorem addR_zero {x y e : V} (h : addR x y = (e, 0)) : okV x = true ∧ okV y = true ∧ okV (addV x y) = true ∧ addV x y = e := by
  unfold addR at h
  split at h
  · rename_i h1
    simp only [Bool.and_eq_true] at h1
    split at h
    · rename_i h2
      simp only [Prod.mk.injEq, and_true] at h
      exact ⟨h1.1, h1.2, h2, h⟩
    · simp at h
  · simp at h
theorem shareR_zero {a b c d a' b' c' d' wt : Int} {r : Int × Int} (h : shareR a b c d a' b' c' d' wt = (r, 0)) : formedB a b c d = true ∧ formedB a' b' c' d' = true ∧ 1 ≤ wt ∧ wt ≤ 1000 := by
  unfold shareR at h
  split at h
  · rename_i h1
    simp only [Bool.and_eq_true] at h1
    split at h
    · simp at h
    · exact ⟨h1.1, h1.2, by omega, by omega⟩
  · simp at h
theorem best_bd {a b c d a' b' c' d' : Int} (h1 : 0 ≤ a) (k1 : a ≤ 1099511627776) (h2 : 0 ≤ b) (k2 : b ≤ 1099511627776) (h3 : 0 ≤ c) (k3 : c ≤ 1099511627776) (h4 : 0 ≤ d) (k4 : d ≤ 1099511627776)
    (i1 : 0 ≤ a') (j1 : a' ≤ 1099511627776) (i2 : 0 ≤ b') (j2 : b' ≤ 1099511627776) (i3 : 0 ≤ c') (j3 : c' ≤ 1099511627776) (i4 : 0 ≤ d') (j4 : d' ≤ 1099511627776) :
    0 ≤ (best a b c d a' b' c' d').1 ∧ (best a b c d a' b' c' d').1 ≤ 1099511627776 ∧ 0 < (best a b c d a' b' c' d').2 ∧ (best a b c d a' b' c' d').2 ≤ 1099511627776 := by
  rcases best_in a b c d a' b' c' d' with h | ⟨h0, h⟩ | ⟨h0, h⟩ | ⟨h0, h⟩ | ⟨h0, h⟩ <;> (rw [h]; simp only; omega)
theorem word_bd {n m wt : Int} (hn : 0 ≤ n) (hn' : n ≤ 1099511627776) (hm : 0 < m) (hm' : m ≤ 1099511627776) (hw : 1 ≤ wt) (hw' : wt ≤ 1001) :
    0 ≤ (newR n (m * wt)).1.1 ∧ (newR n (m * wt)).1.1 ≤ 18446744073709551615 ∧ 0 ≤ (newR n (m * wt)).1.2 ∧ (newR n (m * wt)).1.2 ≤ 18446744073709551615 ∧ (newR n (m * wt)).2 = 0 := by
  have p := prod_le (x := m) (y := wt) (m := 1099511627776) (n := 1001) (by omega) hm' (by omega) hw'
  obtain ⟨x1, x2, x3, x4, x5⟩ := newR_bd hn (Int.mul_pos hm (show 0 < wt by omega))
  exact ⟨x1, by omega, x3, by omega, x5⟩
set_option maxHeartbeats 1000000 in
theorem vectorGrows_any (a b c d p q r s a' b' c' d' wt : Int) (w : World) :
    Calls Try.prog 8 #[.agg #[.int .i64 a, .int .i64 b, .int .i64 c, .int .i64 d, .int .i64 p, .int .i64 q, .int .i64 r, .int .i64 s, .int .i64 a', .int .i64 b', .int .i64 c', .int .i64 d'], .int .i64 wt] w fun e w' => e = .returned (.bool true) ∧ Below w.heap.size w w' := by
  obtain ⟨⟨⟨e0, e1, e2, e3⟩, ne⟩, hadd⟩ : ∃ z0, addR (a, b, c, d) (p, q, r, s) = z0 := ⟨_, rfl⟩
  obtain ⟨⟨⟨r0, r1⟩, nf⟩, hshr⟩ : ∃ z0, shareR a b c d a' b' c' d' wt = z0 := ⟨_, rfl⟩
  have ha : ∀ W, Calls Try.prog 12 #[.agg #[.int .i64 a, .int .i64 b, .int .i64 c, .int .i64 d], .agg #[.int .i64 p, .int .i64 q, .int .i64 r, .int .i64 s]] W fun e w' => e = .returned (.tuple #[.agg #[.int .i64 e0, .int .i64 e1, .int .i64 e2, .int .i64 e3], .int .i64 ne]) ∧ Below W.heap.size W w' := fun W => by
    have h := add_any a b c d p q r s W; rw [hadd] at h
    exact h
  have HA := hid ha
  have hp : ∀ W, Calls Try.prog 22 #[.agg #[.int .i64 a, .int .i64 b, .int .i64 c, .int .i64 d], .agg #[.int .i64 a', .int .i64 b', .int .i64 c', .int .i64 d'], .int .i64 wt] W fun e w' => e = .returned (.tuple #[.agg #[.int .u64 r0, .int .u64 r1], .int .i64 nf]) ∧ Below W.heap.size W w' := fun W => by
    have h := share_any a b c d a' b' c' d' wt W; rw [hshr] at h
    exact h
  have HP := hid hp
  by_cases hne : ne = 0
  · by_cases hnf : nf = 0
    · subst hne hnf
      obtain ⟨f1, f2, f3, f4⟩ := addR_zero hadd
      obtain ⟨g1, g2, g3, g4⟩ := shareR_zero hshr
      obtain ⟨⟨la, la'⟩, ⟨lb, lb'⟩, ⟨lc, lc'⟩, ⟨ld, ld'⟩⟩ := (okV_iff (a, b, c, d)).1 f1
      obtain ⟨⟨lp, lp'⟩, ⟨lq, lq'⟩, ⟨lr, lr'⟩, ⟨ls, ls'⟩⟩ := (okV_iff (p, q, r, s)).1 f2
      obtain ⟨⟨ma, ma'⟩, ⟨mb, mb'⟩, ⟨mc, mc'⟩, ⟨md, md'⟩⟩ := (okV_iff (a', b', c', d')).1 g2
      simp only at la la' lb lb' lc lc' ld ld' lp lp' lq lq' lr lr' ls ls' ma ma' mb mb' mc mc' md md'
      simp only [addV, Prod.mk.injEq] at f3 f4
      obtain ⟨rfl, rfl, rfl, rfl⟩ := f4
      have hso := shareR_ok (a := a + p) (b := b + q) (c := c + r) (d := d + s) (wt := wt) (show formedB (a + p) (b + q) (c + r) (d + s) = true from f3) g2 g3 g4
      have hro := shareR_ok (wt := wt) g1 g2 g3 g4
      rw [hshr] at hro
      obtain ⟨k1, hk1, hc1⟩ := grows1 (a := a) (b := b) (c := c) (d := d) (x := a + p) (y := b + q) (z := c + r) (t := d + s) (wt := wt) ma mb mc md (by omega) (by omega) (by omega) (by omega) (by omega) (by omega) (by omega) (by omega) g3
      obtain ⟨⟨la2, la3⟩, ⟨lb2, lb3⟩, ⟨lc2, lc3⟩, ⟨ld2, ld3⟩⟩ := (okV_iff (a + p, b + q, c + r, d + s)).1 f3
      simp only at la2 la3 lb2 lb3 lc2 lc3 ld2 ld3
      obtain ⟨n0, n1, m0, m1⟩ := best_bd la la' lb lb' lc lc' ld ld' ma ma' mb mb' mc mc' md md'
      obtain ⟨n2, n3, m2, m3⟩ := best_bd la2 la3 lb2 lb3 lc2 lc3 ld2 ld3 ma ma' mb mb' mc mc' md md'
      have hg2 : wt < 1000 → ∃ k, k ≤ 0 ∧ cmpR (newR (best a b c d a' b' c' d').1 ((best a b c d a' b' c' d').2 * (wt + 1))).1.1 (newR (best a b c d a' b' c' d').1 ((best a b c d a' b' c' d').2 * (wt + 1))).1.2 (newR (best a b c d a' b' c' d').1 ((best a b c d a' b' c' d').2 * wt)).1.1 (newR (best a b c d a' b' c' d').1 ((best a b c d a' b' c' d').2 * wt)).1.2 = (k, 0) := fun _ => grows2 n0 m0 g3
      have hto : wt < 1000 → shareR a b c d a' b' c' d' (wt + 1) = newR (best a b c d a' b' c' d').1 ((best a b c d a' b' c' d').2 * (wt + 1)) := fun h => shareR_ok g1 g2 (by omega) (by omega)
      generalize best a b c d a' b' c' d' = u at *
      generalize best (a + p) (b + q) (c + r) (d + s) a' b' c' d' = v at *
      obtain ⟨u0, u1⟩ := u
      obtain ⟨v0, v1⟩ := v
      simp only at *
      have bu := word_bd n0 n1 m0 m1 g3 (show wt ≤ 1001 by omega)
      have bv := word_bd n2 n3 m2 m3 g3 (show wt ≤ 1001 by omega)
      have bt := word_bd n0 n1 m0 m1 (show 1 ≤ wt + 1 by omega) (show wt + 1 ≤ 1001 by omega)
      rw [← hro] at hc1 bu
      obtain ⟨⟨⟨s0, s1⟩, ns⟩, hsv⟩ : ∃ z0, newR v0 (v1 * wt) = z0 := ⟨_, rfl⟩
      rw [hsv] at hc1 bv hso
      simp only at hc1 bu bv
      obtain ⟨bu0, bu1, bu2, bu3, -⟩ := bu
      obtain ⟨bv0, bv1, bv2, bv3, rfl⟩ := bv
      have hs : ∀ W, Calls Try.prog 22 #[.agg #[.int .i64 (a + p), .int .i64 (b + q), .int .i64 (c + r), .int .i64 (d + s)], .agg #[.int .i64 a', .int .i64 b', .int .i64 c', .int .i64 d'], .int .i64 wt] W fun e w' => e = .returned (.tuple #[.agg #[.int .u64 s0, .int .u64 s1], .int .i64 0]) ∧ Below W.heap.size W w' := fun W => by
        have h := share_any (a + p) (b + q) (c + r) (d + s) a' b' c' d' wt W; rw [hso] at h
        exact h
      have HS := hid hs
      clear hs
      have hc : ∀ W, Calls Try.prog 24 #[.agg #[.int .u64 r0, .int .u64 r1], .agg #[.int .u64 s0, .int .u64 s1]] W fun e w' => e = .returned (.tuple #[.int .i64 k1, .int .i64 0]) ∧ Below W.heap.size W w' := fun W => by
        have h := cmpR_any r0 r1 s0 s1 W bu0 bu1 bu2 bu3 bv0 bv1 bv2 bv3; rw [hc1] at h
        exact h
      have HC := hid hc
      clear hc
      by_cases hw : wt = 1000
      · exact grows_c3 a b c d p q r s a' b' c' d' wt w _ _ _ _ r0 r1 s0 s1 k1 hk1 (by simpa using hw) HA HP HS HC
      · have hlt : wt < 1000 := by omega
        obtain ⟨k2, hk2, hc2⟩ := hg2 hlt
        have hto := hto hlt
        rw [← hro] at hc2
        obtain ⟨⟨⟨t0, t1⟩, nt⟩, htv⟩ : ∃ z0, newR u0 (u1 * (wt + 1)) = z0 := ⟨_, rfl⟩
        rw [htv] at hc2 bt hto
        simp only at hc2 bt
        obtain ⟨bt0, bt1, bt2, bt3, rfl⟩ := bt
        have ht : ∀ W, Calls Try.prog 22 #[.agg #[.int .i64 a, .int .i64 b, .int .i64 c, .int .i64 d], .agg #[.int .i64 a', .int .i64 b', .int .i64 c', .int .i64 d'], .int .i64 (wt + 1)] W fun e w' => e = .returned (.tuple #[.agg #[.int .u64 t0, .int .u64 t1], .int .i64 0]) ∧ Below W.heap.size W w' := fun W => by
          have h := share_any a b c d a' b' c' d' (wt + 1) W; rw [hto] at h
          exact h
        have HT := hid ht
        clear ht
        have hd : ∀ W, Calls Try.prog 24 #[.agg #[.int .u64 t0, .int .u64 t1], .agg #[.int .u64 r0, .int .u64 r1]] W fun e w' => e = .returned (.tuple #[.int .i64 k2, .int .i64 0]) ∧ Below W.heap.size W w' := fun W => by
          have h := cmpR_any t0 t1 r0 r1 W bt0 bt1 bt2 bt3 bu0 bu1 bu2 bu3; rw [hc2] at h
          exact h
        have HD := hid hd
        clear hd
        exact grows_c4 a b c d p q r s a' b' c' d' wt w _ _ _ _ r0 r1 s0 s1 t0 t1 k1 k2 hk1 hk2 (by simpa using hw) g3 hlt HA HP HS HC HT HD
    · subst hne
      exact grows_c2 a b c d p q r s a' b' c' d' wt w e0 e1 e2 e3 r0 r1 nf (by simpa using hnf) HA HP
  · exact grows_c1 a b c d p q r s a' b' c' d' wt w e0 e1 e2 e3 ne r0 r1 nf (by simpa using hne) HA HP
end Go.Proofs.Ytcfjhmglifpdlaa
