/- The plain law of shares: fractions in lowest terms are compared as their multiples are; the greatest share of four. No program is in sight. -/
import Derived.Test.YteccpjijlkjneaaVec
import Derived.Test.YteccpjijlkjneaaRat
namespace Go.Proofs.Yteccpjijlkjneaa
theorem gc_dvd_l (a b : Int) : gc a b * (a / gc a b) = a := Int.mul_ediv_cancel' (Int.gcd_dvd_left a b)
theorem gc_dvd_r (a b : Int) : gc a b * (b / gc a b) = b := Int.mul_ediv_cancel' (Int.gcd_dvd_right a b)
theorem quot_pos {a b : Int} (hb : 0 < b) : 0 < b / gc a b := by
  have h1 := gc_dvd_r a b
  have h2 := gc_pos (a := a) hb
  have h3 : 0 ≤ b / gc a b := Int.ediv_nonneg (by omega) (by omega)
  rcases Int.lt_or_eq_of_le h3 with h | h
  · exact h
  · rw [← h] at h1; simp at h1; omega
theorem cmpZ_mul (k x y : Int) (hk : 0 < k) : cmpZ (k * x) (k * y) = cmpZ x y := by
  unfold cmpZ
  have h1 : k * x < k * y ↔ x < y := Int.mul_lt_mul_left hk
  have h2 : k * y < k * x ↔ y < x := Int.mul_lt_mul_left hk
  simp only [h1, h2]
/-- Two in lowest terms are compared as they stood. -/
theorem cmp_new (v y n m : Int) (hy : 0 < y) (hm : 0 < m) :
    cmpR (newR v y).1.1 (newR v y).1.2 (newR n m).1.1 (newR n m).1.2 = (cmpZ (v * m) (n * y), 0) := by
  rw [newR_pos (by omega), newR_pos (by omega)]
  have p1 := quot_pos (a := v) hy
  have p2 := quot_pos (a := n) hm
  have g1 := gc_pos (a := v) hy
  have g2 := gc_pos (a := n) hm
  unfold cmpR
  rw [if_neg (by simp only; omega)]
  simp only [Prod.mk.injEq, and_true]
  have e1 := gc_dvd_l v y
  have e2 := gc_dvd_r v y
  have e3 := gc_dvd_l n m
  have e4 := gc_dvd_r n m
  generalize v / gc v y = v' at *
  generalize y / gc v y = y' at *
  generalize n / gc n m = n' at *
  generalize m / gc n m = m' at *
  generalize gc v y = g at *
  generalize gc n m = h at *
  have k : 0 < g * h := Int.mul_pos g1 g2
  rw [← cmpZ_mul (g * h) _ _ k]
  subst e1 e2 e3 e4
  congr 1 <;> grind
/-- One place: what it makes of the greatest so far. -/
def stp (s : Int × Int) (v al : Int) : Int × Int := if al = 0 then s else if s.1 * al < v * s.2 then (v, al) else s
theorem stp_zero (s : Int × Int) (v : Int) : stp s v 0 = s := by unfold stp; rw [if_pos rfl]
theorem stp_up {s : Int × Int} {v al : Int} (h : al ≠ 0) (h2 : s.1 * al < v * s.2) : stp s v al = (v, al) := by unfold stp; rw [if_neg h, if_pos h2]
theorem stp_no {s : Int × Int} {v al : Int} (h : al ≠ 0) (h2 : ¬ s.1 * al < v * s.2) : stp s v al = s := by unfold stp; rw [if_neg h, if_neg h2]
def best (a b c d a' b' c' d' : Int) : Int × Int := stp (stp (stp (stp (0, 1) a a') b b') c c') d d'
/-- The share of the chapter: the fraction, and the error's number. -/
def shareR (a b c d a' b' c' d' wt : Int) : (Int × Int) × Int :=
  if formedB a b c d && formedB a' b' c' d' then (if wt < 1 ∨ 1000 < wt then ((0, 0), 2) else newR (best a b c d a' b' c' d').1 ((best a b c d a' b' c' d').2 * wt)) else ((0, 0), 4)
theorem shareR_form {a b c d a' b' c' d' wt : Int} (h : (formedB a b c d && formedB a' b' c' d') = false) : shareR a b c d a' b' c' d' wt = ((0, 0), 4) := by unfold shareR; rw [h]; rfl
theorem shareR_range {a b c d a' b' c' d' wt : Int} (h : formedB a b c d = true) (h' : formedB a' b' c' d' = true) (hw : wt < 1 ∨ 1000 < wt) : shareR a b c d a' b' c' d' wt = ((0, 0), 2) := by
  unfold shareR; rw [h, h', if_pos (by rfl), if_pos hw]
theorem shareR_ok {a b c d a' b' c' d' wt : Int} (h : formedB a b c d = true) (h' : formedB a' b' c' d' = true) (hw : 1 ≤ wt) (hw' : wt ≤ 1000) :
    shareR a b c d a' b' c' d' wt = newR (best a b c d a' b' c' d').1 ((best a b c d a' b' c' d').2 * wt) := by
  unfold shareR; rw [h, h', if_pos (by rfl), if_neg (by omega)]
/-- Weights change nothing in the comparison. -/
theorem cmp_weight (v al n d wt : Int) (hw : 0 < wt) : cmpZ (v * (d * wt)) (n * (al * wt)) = cmpZ (v * d) (n * al) := by
  rw [show v * (d * wt) = wt * (v * d) by grind, show n * (al * wt) = wt * (n * al) by grind, cmpZ_mul _ _ _ hw]
theorem cmpZ_gt {x y : Int} : 0 < cmpZ x y ↔ y < x := by unfold cmpZ; split <;> (try split) <;> omega
end Go.Proofs.Yteccpjijlkjneaa
