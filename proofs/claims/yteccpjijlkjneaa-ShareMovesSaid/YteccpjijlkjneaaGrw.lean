/- The plain law of VectorGrows: what takes more has no less a share, a greater weight no greater one. No program is in sight. -/
import Derived.Test.YteccpjijlkjneaaShr
namespace Go.Proofs.Yteccpjijlkjneaa
theorem stp_pos {s : Int × Int} {v al : Int} (h : 0 < s.2) (ha : 0 ≤ al) : 0 < (stp s v al).2 := by
  unfold stp; split
  · exact h
  · split
    · simp only; omega
    · exact h
theorem stp_nonneg {s : Int × Int} {v al : Int} (h : 0 ≤ s.1) (hv : 0 ≤ v) : 0 ≤ (stp s v al).1 := by
  unfold stp; split
  · exact h
  · split
    · exact hv
    · exact h
theorem stp_keep {s : Int × Int} {v al x xl : Int} (h2 : 0 < s.2) (ha : 0 ≤ al) (hx : 0 < xl) (h : x * s.2 ≤ s.1 * xl) : x * (stp s v al).2 ≤ (stp s v al).1 * xl := by
  unfold stp; split
  · exact h
  · split
    · rename_i h0 hlt
      simp only
      have hal : 0 < al := by omega
      have e1 : x * s.2 * al ≤ s.1 * xl * al := Int.mul_le_mul_of_nonneg_right h ha
      have e2 : s.1 * al * xl < v * s.2 * xl := Int.mul_lt_mul_of_pos_right hlt hx
      have e3 : s.2 * (x * al) < s.2 * (v * xl) := by
        have f1 : s.2 * (x * al) = x * s.2 * al := by grind
        have f2 : s.2 * (v * xl) = v * s.2 * xl := by grind
        have f3 : s.1 * xl * al = s.1 * al * xl := by grind
        omega
      exact Int.le_of_lt (Int.lt_of_mul_lt_mul_left e3 (Int.le_of_lt h2))
    · exact h
theorem stp_self {s : Int × Int} {v al : Int} (ha : al ≠ 0) : v * (stp s v al).2 ≤ (stp s v al).1 * al := by
  unfold stp; rw [if_neg ha]; split
  · exact Int.le_refl _
  · omega
/-- What the greatest is: the zero, or one of the four. -/
theorem stp_in (s : Int × Int) (v al : Int) : stp s v al = s ∨ (al ≠ 0 ∧ stp s v al = (v, al)) := by
  by_cases h : al = 0
  · left; rw [h, stp_zero]
  · by_cases h2 : s.1 * al < v * s.2
    · right; exact ⟨h, stp_up h h2⟩
    · left; exact stp_no h h2
theorem best_pos {a b c d a' b' c' d' : Int} (h1 : 0 ≤ a') (h2 : 0 ≤ b') (h3 : 0 ≤ c') (h4 : 0 ≤ d') : 0 < (best a b c d a' b' c' d').2 :=
  stp_pos (stp_pos (stp_pos (stp_pos (by decide) h1) h2) h3) h4
theorem best_nonneg {a b c d a' b' c' d' : Int} (h1 : 0 ≤ a) (h2 : 0 ≤ b) (h3 : 0 ≤ c) (h4 : 0 ≤ d) : 0 ≤ (best a b c d a' b' c' d').1 :=
  stp_nonneg (stp_nonneg (stp_nonneg (stp_nonneg (by decide) h1) h2) h3) h4
theorem best_max {a b c d a' b' c' d' : Int} (h1 : 0 ≤ a') (h2 : 0 ≤ b') (h3 : 0 ≤ c') (h4 : 0 ≤ d') :
    (a' ≠ 0 → a * (best a b c d a' b' c' d').2 ≤ (best a b c d a' b' c' d').1 * a') ∧ (b' ≠ 0 → b * (best a b c d a' b' c' d').2 ≤ (best a b c d a' b' c' d').1 * b') ∧
    (c' ≠ 0 → c * (best a b c d a' b' c' d').2 ≤ (best a b c d a' b' c' d').1 * c') ∧ (d' ≠ 0 → d * (best a b c d a' b' c' d').2 ≤ (best a b c d a' b' c' d').1 * d') := by
  have p1 : 0 < (stp (0, 1) a a').2 := stp_pos (by decide) h1
  have p2 : 0 < (stp (stp (0, 1) a a') b b').2 := stp_pos p1 h2
  have p3 : 0 < (stp (stp (stp (0, 1) a a') b b') c c').2 := stp_pos p2 h3
  refine ⟨fun h => ?_, fun h => ?_, fun h => ?_, fun h => stp_self h⟩
  · exact stp_keep p3 h4 (by omega) (stp_keep p2 h3 (by omega) (stp_keep p1 h2 (by omega) (stp_self h)))
  · exact stp_keep p3 h4 (by omega) (stp_keep p2 h3 (by omega) (stp_self h))
  · exact stp_keep p3 h4 (by omega) (stp_self h)
theorem best_in (a b c d a' b' c' d' : Int) : best a b c d a' b' c' d' = (0, 1) ∨ (a' ≠ 0 ∧ best a b c d a' b' c' d' = (a, a')) ∨ (b' ≠ 0 ∧ best a b c d a' b' c' d' = (b, b')) ∨
    (c' ≠ 0 ∧ best a b c d a' b' c' d' = (c, c')) ∨ (d' ≠ 0 ∧ best a b c d a' b' c' d' = (d, d')) := by
  unfold best
  rcases stp_in (stp (stp (stp (0, 1) a a') b b') c c') d d' with h | ⟨h0, h⟩
  · rw [h]
    rcases stp_in (stp (stp (0, 1) a a') b b') c c' with h | ⟨h0, h⟩
    · rw [h]
      rcases stp_in (stp (0, 1) a a') b b' with h | ⟨h0, h⟩
      · rw [h]
        rcases stp_in (0, 1) a a' with h | ⟨h0, h⟩
        · exact .inl h
        · exact .inr (.inl ⟨h0, h⟩)
      · exact .inr (.inr (.inl ⟨h0, h⟩))
    · exact .inr (.inr (.inr (.inl ⟨h0, h⟩)))
  · exact .inr (.inr (.inr (.inr ⟨h0, h⟩)))
/-- What takes more has no less a share. -/
theorem best_mono {a b c d x y z t a' b' c' d' : Int} (h1 : 0 ≤ a') (h2 : 0 ≤ b') (h3 : 0 ≤ c') (h4 : 0 ≤ d') (x0 : 0 ≤ x) (y0 : 0 ≤ y) (z0 : 0 ≤ z) (t0 : 0 ≤ t)
    (hx : a ≤ x) (hy : b ≤ y) (hz : c ≤ z) (ht : d ≤ t) :
    (best a b c d a' b' c' d').1 * (best x y z t a' b' c' d').2 ≤ (best x y z t a' b' c' d').1 * (best a b c d a' b' c' d').2 := by
  have hp := best_pos (a := x) (b := y) (c := z) (d := t) h1 h2 h3 h4
  have hn := best_nonneg (a' := a') (b' := b') (c' := c') (d' := d') x0 y0 z0 t0
  obtain ⟨m1, m2, m3, m4⟩ := best_max (a := x) (b := y) (c := z) (d := t) h1 h2 h3 h4
  generalize best x y z t a' b' c' d' = r at *
  have key : ∀ u v ul : Int, u ≤ v → v * r.2 ≤ r.1 * ul → u * r.2 ≤ r.1 * ul := fun u v ul h k => Int.le_trans (Int.mul_le_mul_of_nonneg_right h (Int.le_of_lt hp)) k
  rcases best_in a b c d a' b' c' d' with h | ⟨h0, h⟩ | ⟨h0, h⟩ | ⟨h0, h⟩ | ⟨h0, h⟩
  · rw [h]; simp only; omega
  · rw [h]; exact key _ _ _ hx (m1 h0)
  · rw [h]; exact key _ _ _ hy (m2 h0)
  · rw [h]; exact key _ _ _ hz (m3 h0)
  · rw [h]; exact key _ _ _ ht (m4 h0)
theorem cmpZ_le {x y : Int} (h : x ≤ y) : cmpZ x y ≤ 0 := by unfold cmpZ; split <;> (try split) <;> omega
/-- The two comparisons of the law. -/
theorem grows1 {a b c d x y z t a' b' c' d' wt : Int} (h1 : 0 ≤ a') (h2 : 0 ≤ b') (h3 : 0 ≤ c') (h4 : 0 ≤ d') (x0 : 0 ≤ x) (y0 : 0 ≤ y) (z0 : 0 ≤ z) (t0 : 0 ≤ t)
    (hx : a ≤ x) (hy : b ≤ y) (hz : c ≤ z) (ht : d ≤ t) (hw : 1 ≤ wt) :
    ∃ k, k ≤ 0 ∧ cmpR (newR (best a b c d a' b' c' d').1 ((best a b c d a' b' c' d').2 * wt)).1.1 (newR (best a b c d a' b' c' d').1 ((best a b c d a' b' c' d').2 * wt)).1.2
      (newR (best x y z t a' b' c' d').1 ((best x y z t a' b' c' d').2 * wt)).1.1 (newR (best x y z t a' b' c' d').1 ((best x y z t a' b' c' d').2 * wt)).1.2 = (k, 0) := by
  have hm := best_mono h1 h2 h3 h4 x0 y0 z0 t0 hx hy hz ht
  have p1 := best_pos (a := a) (b := b) (c := c) (d := d) h1 h2 h3 h4
  have p2 := best_pos (a := x) (b := y) (c := z) (d := t) h1 h2 h3 h4
  refine ⟨_, ?_, cmp_new _ _ _ _ (Int.mul_pos p1 (by omega)) (Int.mul_pos p2 (by omega))⟩
  rw [cmp_weight _ _ _ _ _ (by omega)]
  exact cmpZ_le hm
theorem grows2 {n m wt : Int} (hn : 0 ≤ n) (hm : 0 < m) (hw : 1 ≤ wt) :
    ∃ k, k ≤ 0 ∧ cmpR (newR n (m * (wt + 1))).1.1 (newR n (m * (wt + 1))).1.2 (newR n (m * wt)).1.1 (newR n (m * wt)).1.2 = (k, 0) := by
  refine ⟨_, ?_, cmp_new _ _ _ _ (Int.mul_pos hm (by omega)) (Int.mul_pos hm (by omega))⟩
  apply cmpZ_le
  apply Int.mul_le_mul_of_nonneg_left _ hn
  apply Int.mul_le_mul_of_nonneg_left _ (Int.le_of_lt hm)
  omega
end Go.Proofs.Yteccpjijlkjneaa
