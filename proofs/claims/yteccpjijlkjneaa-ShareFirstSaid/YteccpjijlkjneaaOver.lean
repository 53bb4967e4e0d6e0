/- Products of two numbers below 2^40 compared by words of 20 bits: the plain law, and the contract of the reference's over. Asked: that the four lie between 0 and 2^40. -/
import Derived.Test.YteccpjijlkjneaaRat2
namespace Go.Proofs.Yteccpjijlkjneaa
open Go.RowKit
theorem ret_bool' {a b : Bool} (h : a = b) : Ending.returned (.bool a) = .returned (.bool b) := by rw [h]
theorem prod_le {x y m n : Int} (hx : 0 ≤ x) (hx' : x ≤ m) (hy : 0 ≤ y) (hy' : y ≤ n) : 0 ≤ x * y ∧ x * y ≤ m * n :=
  ⟨Int.mul_nonneg hx hy, Int.mul_le_mul hx' hy' hy (by omega)⟩
theorem split_mul (a b : Int) : a * b = a / 1048576 * (b / 1048576) * 1099511627776 + (a / 1048576 * (b % 1048576) + a % 1048576 * (b / 1048576)) * 1048576 + a % 1048576 * (b % 1048576) := by
  have ea := Int.mul_ediv_add_emod a 1048576
  have eb := Int.mul_ediv_add_emod b 1048576
  generalize a / 1048576 = p at *
  generalize a % 1048576 = q at *
  generalize b / 1048576 = r at *
  generalize b % 1048576 = s at *
  subst ea eb
  grind
/-- What the words say: 'greater' by the highest that part. -/
def overW (x0 x1 x2 y0 y1 y2 : Int) : Bool :=
  if x0 ≠ y0 then decide (y0 < x0) else if x1 % 1048576 ≠ y1 % 1048576 then decide (y1 % 1048576 < x1 % 1048576) else decide (y2 % 1048576 < x2 % 1048576)
def hi (a b : Int) : Int := a / 1048576 * (b / 1048576)
def mi (a b : Int) : Int := a / 1048576 * (b % 1048576) + a % 1048576 * (b / 1048576)
def lo (a b : Int) : Int := a % 1048576 * (b % 1048576)
theorem overW_is (a b c d : Int) :
    overW (hi a b + (mi a b + lo a b / 1048576) / 1048576) (mi a b + lo a b / 1048576) (lo a b) (hi c d + (mi c d + lo c d / 1048576) / 1048576) (mi c d + lo c d / 1048576) (lo c d) = decide (c * d < a * b) := by
  have e1 : a * b = hi a b * 1099511627776 + mi a b * 1048576 + lo a b := split_mul a b
  have e2 : c * d = hi c d * 1099511627776 + mi c d * 1048576 + lo c d := split_mul c d
  rw [e1, e2]
  generalize hi a b = p0
  generalize mi a b = p1
  generalize lo a b = p2
  generalize hi c d = q0
  generalize mi c d = q1
  generalize lo c d = q2
  unfold overW
  split
  · simp only [decide_eq_decide]; omega
  · split
    · simp only [decide_eq_decide]; omega
    · simp only [decide_eq_decide]; omega
theorem fin1 (x0 x1 x2 y0 y1 y2 : Int) (h : (x0 != y0) = true) : decide (y0 < x0) = overW x0 x1 x2 y0 y1 y2 := by
  unfold overW; rw [if_pos (by simpa using h)]
theorem fin2 (x0 x1 x2 y0 y1 y2 : Int) (h : (x0 != y0) = false) (h2 : (x1 % 1048576 != y1 % 1048576) = true) : decide (y1 % 1048576 < x1 % 1048576) = overW x0 x1 x2 y0 y1 y2 := by
  unfold overW; rw [if_neg (by simpa using h), if_pos (by simpa using h2)]
theorem fin3 (x0 x1 x2 y0 y1 y2 : Int) (h : (x0 != y0) = false) (h2 : (x1 % 1048576 != y1 % 1048576) = false) : decide (y2 % 1048576 < x2 % 1048576) = overW x0 x1 x2 y0 y1 y2 := by
  unfold overW; rw [if_neg (by simpa using h), if_neg (by simpa using h2)]
set_option maxHeartbeats 1000000 in
theorem over_any (a b c d : Int) (w : World) (ha : 0 ≤ a) (ha' : a ≤ 1099511627776) (hb : 0 ≤ b) (hb' : b ≤ 1099511627776) (hc : 0 ≤ c) (hc' : c ≤ 1099511627776) (hd : 0 ≤ d) (hd' : d ≤ 1099511627776) :
    Calls Try.prog 41 #[.int .i64 a, .int .i64 b, .int .i64 c, .int .i64 d] w fun e w' => e = .returned (.bool (decide (c * d < a * b))) ∧ Below w.heap.size w w' := by
  have hE := overW_is a b c d
  have HE := hid hE
  clear hE
  obtain ⟨s0, s0'⟩ := prod_le (x := a / 1048576) (y := b / 1048576) (m := 1048576) (n := 1048576) (by omega) (by omega) (by omega) (by omega)
  obtain ⟨s1, s1'⟩ := prod_le (x := a / 1048576) (y := b % 1048576) (m := 1048576) (n := 1048576) (by omega) (by omega) (by omega) (by omega)
  obtain ⟨s2, s2'⟩ := prod_le (x := a % 1048576) (y := b / 1048576) (m := 1048576) (n := 1048576) (by omega) (by omega) (by omega) (by omega)
  obtain ⟨s3, s3'⟩ := prod_le (x := a % 1048576) (y := b % 1048576) (m := 1048576) (n := 1048576) (by omega) (by omega) (by omega) (by omega)
  obtain ⟨t0, t0'⟩ := prod_le (x := c / 1048576) (y := d / 1048576) (m := 1048576) (n := 1048576) (by omega) (by omega) (by omega) (by omega)
  obtain ⟨t1, t1'⟩ := prod_le (x := c / 1048576) (y := d % 1048576) (m := 1048576) (n := 1048576) (by omega) (by omega) (by omega) (by omega)
  obtain ⟨t2, t2'⟩ := prod_le (x := c % 1048576) (y := d / 1048576) (m := 1048576) (n := 1048576) (by omega) (by omega) (by omega) (by omega)
  obtain ⟨t3, t3'⟩ := prod_le (x := c % 1048576) (y := d % 1048576) (m := 1048576) (n := 1048576) (by omega) (by omega) (by omega) (by omega)
  go_enter Try.func41, Try.ntmps41
  go_wp2
  · have hE := HE.out
    unfold hi mi lo at hE
    go_ret
    refine ⟨ret_bool' (Eq.trans ?_ hE), (by repeat (first | with_reducible assumption | with_reducible exact Below.refl _ _ | with_reducible refine Below.drew ?_ | with_reducible refine below_drewN ?_ _ | with_reducible refine below_alloc ?_ _ | with_reducible refine Below.alloc ?_ (by first | omega | (simp; done) | (simp; omega)) _ | with_reducible refine Below.setCell ?_ (by first | omega | (simp; done) | (simp; omega)) _ | with_reducible refine below_setRow ?_ (by first | omega | (simp; done) | (simp; omega)) _))⟩
    exact fin1 _ _ _ _ _ _ (by assumption)
  · have hE := HE.out
    unfold hi mi lo at hE
    go_ret
    refine ⟨ret_bool' (Eq.trans ?_ hE), (by repeat (first | with_reducible assumption | with_reducible exact Below.refl _ _ | with_reducible refine Below.drew ?_ | with_reducible refine below_drewN ?_ _ | with_reducible refine below_alloc ?_ _ | with_reducible refine Below.alloc ?_ (by first | omega | (simp; done) | (simp; omega)) _ | with_reducible refine Below.setCell ?_ (by first | omega | (simp; done) | (simp; omega)) _ | with_reducible refine below_setRow ?_ (by first | omega | (simp; done) | (simp; omega)) _))⟩
    exact fin2 _ _ _ _ _ _ (by assumption) (by assumption)
  · have hE := HE.out
    unfold hi mi lo at hE
    go_ret
    refine ⟨ret_bool' (Eq.trans ?_ hE), (by repeat (first | with_reducible assumption | with_reducible exact Below.refl _ _ | with_reducible refine Below.drew ?_ | with_reducible refine below_drewN ?_ _ | with_reducible refine below_alloc ?_ _ | with_reducible refine Below.alloc ?_ (by first | omega | (simp; done) | (simp; omega)) _ | with_reducible refine Below.setCell ?_ (by first | omega | (simp; done) | (simp; omega)) _ | with_reducible refine below_setRow ?_ (by first | omega | (simp; done) | (simp; omega)) _))⟩
    exact fin3 _ _ _ _ _ _ (by assumption) (by assumption)
end Go.Proofs.Yteccpjijlkjneaa
