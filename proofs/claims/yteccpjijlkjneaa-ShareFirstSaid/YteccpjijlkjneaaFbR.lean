/- Comparisons of chapter 8: fractions, ties, handles. -/
import Derived.Test.YteccpjijlkjneaaProg
import Derived.Test.YteccpjijlkjneaaCls
import Derived.Test.YteccpjijlkjneaaRat
import Derived.BigRegion
import Derived.Test.YteccpjijlkjneaaMul
namespace Go.Proofs.Yteccpjijlkjneaa
open Go.RowKit
theorem retI {a b : Int} (h : a = b) : Ending.returned (.int .i64 a) = .returned (.int .i64 b) := by rw [h]
theorem nanU_any (a : Int) (w : World) : Calls Try.prog 67 #[.int .u64 a] w fun e w' => e = .returned (.bool false) ∧ w = w' := by
  go_enter Try.func67, Try.ntmps67
  go_wp2
  go_ret
  exact ⟨by simp, rfl⟩
theorem cmpU_any (a b : Int) (w : World) : Calls Try.prog 48 #[.int .u64 a, .int .u64 b] w fun e w' => e = .returned (.int .i64 (cmpZ a b)) ∧ w = w' := by
  go_enter Try.func48, Try.ntmps48
  go_wp2_with fail
  refine (nanU_any _ _).mono ?_
  rintro e w1 ⟨rfl, rfl⟩
  go_wp2_with fail
  refine (nanU_any _ _).mono ?_
  rintro e w1 ⟨rfl, rfl⟩
  by_cases h1 : a < b
  · have e1 : cmpZ a b = -1 := by unfold cmpZ; rw [if_pos h1]
    have H1 := hid e1
    clear e1
    go_wp2
    go_ret
    exact ⟨retI H1.out.symm, rfl⟩
  · by_cases h2 : b < a
    · have e1 : cmpZ a b = 1 := by unfold cmpZ; rw [if_neg h1, if_pos h2]
      have H1 := hid e1
      clear e1
      go_wp2
      go_ret
      exact ⟨retI H1.out.symm, rfl⟩
    · have e1 : cmpZ a b = 0 := by unfold cmpZ; rw [if_neg h1, if_neg h2]
      have H1 := hid e1
      clear e1
      go_wp2
      go_ret
      exact ⟨retI H1.out.symm, rfl⟩
set_option maxHeartbeats 400000 in
theorem or2 (g : Nat) (x y : Int) (w : World) (c0 : w.cell? ⟨g, 0, none⟩ = some (.int .i64 x)) (c1 : w.cell? ⟨g, 1, none⟩ = some (.int .i64 y)) :
    Calls Try.prog 47 #[.slice (some ⟨g, 0, none⟩) 2 2] w fun e w' => e = .returned (.int .i64 (if x ≠ 0 then x else y)) ∧ w = w' := by
  by_cases hx : x = 0
  · by_cases hy : y = 0
    · subst hx hy
      go_enter Try.func47, Try.ntmps47
      go_wp2
      refine wp_loop_rounds 3 ?_
      iterate 3 (rw [rounds_succ]; go_wp2)
      go_ret
      exact ⟨rfl, rfl⟩
    · subst hx
      have h1 : (y != 0) = true := by simp; omega
      go_enter Try.func47, Try.ntmps47
      go_wp2
      refine wp_loop_rounds 3 ?_
      iterate 2 (rw [rounds_succ]; go_wp2)
      go_ret
      exact ⟨rfl, rfl⟩
  · have h1 : (x != 0) = true := by simp; omega
    have HX := hid hx
    clear hx
    go_enter Try.func47, Try.ntmps47
    go_wp2
    refine wp_loop_rounds 3 ?_
    rw [rounds_succ]
    go_wp2
    go_ret
    exact ⟨retI (by first | rfl | rw [if_pos HX.out]), rfl⟩
theorem or2' (g : Nat) (x y : Int) (w : World) {t : TypeId} {f : Nat × Nat} (h : w.heap[g]? = some (.cells #[.int .i64 x, .int .i64 y] t f)) :
    Calls Try.prog 47 #[.slice (some ⟨g, 0, none⟩) 2 2] w fun e w' => e = .returned (.int .i64 (if x ≠ 0 then x else y)) ∧ w = w' :=
  or2 g x y w (by rw [blk_cell h]; rfl) (by rw [blk_cell h]; rfl)
theorem mul_any (x y : Int) (w : World) (hx : 0 ≤ x) (hx' : x ≤ 18446744073709551615) (hy : 0 ≤ y) (hy' : y ≤ 18446744073709551615) :
    Calls Try.prog 46 #[.int .u64 x, .int .u64 y] w fun e w' => e = .returned (.tuple #[.int .u64 (x * y / 18446744073709551616), .int .u64 (x * y % 18446744073709551616)]) ∧ w = w' := by
  obtain ⟨a, rfl⟩ := Int.eq_ofNat_of_zero_le hx
  obtain ⟨b, rfl⟩ := Int.eq_ofNat_of_zero_le hy
  refine (Try.bits_Mul64 a b (by omega) (by omega) w).mono ?_
  rintro e w' ⟨rfl, hw⟩
  refine ⟨?_, hw.symm⟩
  rw [Int.natCast_ediv, Int.natCast_emod, Int.natCast_mul]
  rfl
set_option maxHeartbeats 1000000 in
theorem cmpR_any (an ad bn bd : Int) (w : World) (h1 : 0 ≤ an) (h1' : an ≤ 18446744073709551615) (h2 : 0 ≤ ad) (h2' : ad ≤ 18446744073709551615) (h3 : 0 ≤ bn) (h3' : bn ≤ 18446744073709551615) (h4 : 0 ≤ bd) (h4' : bd ≤ 18446744073709551615) :
    Calls Try.prog 32 #[.agg #[.int .u64 an, .int .u64 ad], .agg #[.int .u64 bn, .int .u64 bd]] w fun e w' => e = .returned (.tuple #[.int .i64 (cmpR an ad bn bd).1, .int .i64 (cmpR an ad bn bd).2]) ∧ Below w.heap.size w w' := by
  by_cases z1 : ad = 0
  · have e1 : cmpR an ad bn bd = (0, 4) := by unfold cmpR; rw [if_pos (.inl z1)]
    have E := hid e1
    have b1 : (ad == 0) = true := by simp [z1]
    clear e1 z1
    go_enter Try.func32, Try.ntmps32
    go_wp2
    go_ret2
    exact ⟨by rw [E.out]; rfl, (by repeat (first | with_reducible assumption | with_reducible exact Below.refl _ _ | with_reducible refine Below.drew ?_ | with_reducible refine below_drewN ?_ _ | with_reducible refine below_alloc ?_ _ | with_reducible refine Below.alloc ?_ (by first | omega | (simp; done) | (simp; omega)) _ | with_reducible refine Below.setCell ?_ (by first | omega | (simp; done) | (simp; omega)) _ | with_reducible refine below_setRow ?_ (by first | omega | (simp; done) | (simp; omega)) _))⟩
  · by_cases z2 : bd = 0
    · have e1 : cmpR an ad bn bd = (0, 4) := by unfold cmpR; rw [if_pos (.inr z2)]
      have E := hid e1
      have b1 : (ad == 0) = false := by simp; omega
      have b2 : (bd == 0) = true := by simp [z2]
      clear e1 z1 z2
      go_enter Try.func32, Try.ntmps32
      go_wp2
      go_ret2
      exact ⟨by rw [E.out]; rfl, (by repeat (first | with_reducible assumption | with_reducible exact Below.refl _ _ | with_reducible refine Below.drew ?_ | with_reducible refine below_drewN ?_ _ | with_reducible refine below_alloc ?_ _ | with_reducible refine Below.alloc ?_ (by first | omega | (simp; done) | (simp; omega)) _ | with_reducible refine Below.setCell ?_ (by first | omega | (simp; done) | (simp; omega)) _ | with_reducible refine below_setRow ?_ (by first | omega | (simp; done) | (simp; omega)) _))⟩
    · have e1 : cmpR an ad bn bd = (cmpZ (an * bd) (bn * ad), 0) := by unfold cmpR; rw [if_neg (by simp [z1, z2])]
      have e2 := cmp_words (an * bd) (bn * ad) 18446744073709551616 (by omega) (Int.mul_nonneg h1 h4) (Int.mul_nonneg h3 h2)
      have m1 : ∀ W, Calls Try.prog 46 #[.int .u64 an, .int .u64 bd] W fun e w' => e = .returned (.tuple #[.int .u64 (an * bd / 18446744073709551616), .int .u64 (an * bd % 18446744073709551616)]) ∧ W = w' := fun W => mul_any an bd W h1 h1' h4 h4'
      have m2 : ∀ W, Calls Try.prog 46 #[.int .u64 bn, .int .u64 ad] W fun e w' => e = .returned (.tuple #[.int .u64 (bn * ad / 18446744073709551616), .int .u64 (bn * ad % 18446744073709551616)]) ∧ W = w' := fun W => mul_any bn ad W h3 h3' h2 h2'
      have E := hid e1
      have E2 := hid e2
      have M1 := hid m1
      have M2 := hid m2
      have b1 : (ad == 0) = false := by simp; omega
      have b2 : (bd == 0) = false := by simp; omega
      clear e1 e2 m1 m2 z1 z2 h1 h1' h2 h2' h3 h3' h4 h4'
      generalize an * bd / 18446744073709551616 = p1 at *
      generalize an * bd % 18446744073709551616 = p2 at *
      generalize bn * ad / 18446744073709551616 = q1 at *
      generalize bn * ad % 18446744073709551616 = q2 at *
      go_enter Try.func32, Try.ntmps32
      go_wp2_with fail
      refine (M1.out _).mono ?_
      rintro e w1 ⟨rfl, rfl⟩
      go_wp2_with fail
      refine (M2.out _).mono ?_
      rintro e w1 ⟨rfl, rfl⟩
      go_wp2_with fail
      refine (cmpU_any _ _ _).mono ?_
      rintro e w1 ⟨rfl, rfl⟩
      go_wp2_with fail
      refine (cmpU_any _ _ _).mono ?_
      rintro e w1 ⟨rfl, rfl⟩
      go_wp2_with fail
      refine (or2' _ (cmpZ p1 q1) (cmpZ p2 q2) _ (by (repeat (first | (with_reducible assumption) | (with_reducible exact alloc_at _ _) | ((with_reducible apply alloc_at'); (simp; done)) | (with_reducible apply alloc_at_lt) | (with_reducible apply heap_drew_at) | (with_reducible apply heap_drewN_at) | (with_reducible apply heap_setCell_same) | ((with_reducible apply heap_set_ne); (first | omega | (dsimp only; omega) | (simp; done) | (simp; omega))) | (with_reducible apply setRow_at) | ((with_reducible apply setRow_ne); (first | omega | (dsimp only; omega) | (simp; done) | (simp; omega))))))).mono ?_
      rintro e w1 ⟨rfl, rfl⟩
      rw [E2.out]
      go_wp2
      go_ret2
      exact ⟨by rw [E.out]; rfl, (by repeat (first | with_reducible assumption | with_reducible exact Below.refl _ _ | with_reducible refine Below.drew ?_ | with_reducible refine below_drewN ?_ _ | with_reducible refine below_alloc ?_ _ | with_reducible refine Below.alloc ?_ (by first | omega | (simp; done) | (simp; omega)) _ | with_reducible refine Below.setCell ?_ (by first | omega | (simp; done) | (simp; omega)) _ | with_reducible refine below_setRow ?_ (by first | omega | (simp; done) | (simp; omega)) _))⟩
theorem nanT_any (a : Int) (w : World) : Calls Try.prog 78 #[.int .i64 a] w fun e w' => e = .returned (.bool false) ∧ w = w' := by
  go_enter Try.func78, Try.ntmps78
  go_wp2
  go_ret
  exact ⟨by simp, rfl⟩
theorem cmpT_any (a b : Int) (w : World) : Calls Try.prog 73 #[.int .i64 a, .int .i64 b] w fun e w' => e = .returned (.int .i64 (cmpZ a b)) ∧ w = w' := by
  go_enter Try.func73, Try.ntmps73
  go_wp2_with fail
  refine (nanT_any _ _).mono ?_
  rintro e w1 ⟨rfl, rfl⟩
  go_wp2_with fail
  refine (nanT_any _ _).mono ?_
  rintro e w1 ⟨rfl, rfl⟩
  by_cases h1 : a < b
  · have e1 : cmpZ a b = -1 := by unfold cmpZ; rw [if_pos h1]
    have H1 := hid e1
    clear e1
    go_wp2
    go_ret
    exact ⟨retI H1.out.symm, rfl⟩
  · by_cases h2 : b < a
    · have e1 : cmpZ a b = 1 := by unfold cmpZ; rw [if_neg h1, if_pos h2]
      have H1 := hid e1
      clear e1
      go_wp2
      go_ret
      exact ⟨retI H1.out.symm, rfl⟩
    · have e1 : cmpZ a b = 0 := by unfold cmpZ; rw [if_neg h1, if_neg h2]
      have H1 := hid e1
      clear e1
      go_wp2
      go_ret
      exact ⟨retI H1.out.symm, rfl⟩
theorem nanN_any (a : Int) (w : World) : Calls Try.prog 79 #[.int .i64 a] w fun e w' => e = .returned (.bool false) ∧ w = w' := by
  go_enter Try.func79, Try.ntmps79
  go_wp2
  go_ret
  exact ⟨by simp, rfl⟩
theorem cmpN_any (a b : Int) (w : World) : Calls Try.prog 74 #[.int .i64 a, .int .i64 b] w fun e w' => e = .returned (.int .i64 (cmpZ a b)) ∧ w = w' := by
  go_enter Try.func74, Try.ntmps74
  go_wp2_with fail
  refine (nanN_any _ _).mono ?_
  rintro e w1 ⟨rfl, rfl⟩
  go_wp2_with fail
  refine (nanN_any _ _).mono ?_
  rintro e w1 ⟨rfl, rfl⟩
  by_cases h1 : a < b
  · have e1 : cmpZ a b = -1 := by unfold cmpZ; rw [if_pos h1]
    have H1 := hid e1
    clear e1
    go_wp2
    go_ret
    exact ⟨retI H1.out.symm, rfl⟩
  · by_cases h2 : b < a
    · have e1 : cmpZ a b = 1 := by unfold cmpZ; rw [if_neg h1, if_pos h2]
      have H1 := hid e1
      clear e1
      go_wp2
      go_ret
      exact ⟨retI H1.out.symm, rfl⟩
    · have e1 : cmpZ a b = 0 := by unfold cmpZ; rw [if_neg h1, if_neg h2]
      have H1 := hid e1
      clear e1
      go_wp2
      go_ret
      exact ⟨retI H1.out.symm, rfl⟩
def or3I (x y z : Int) : Int := if x ≠ 0 then x else if y ≠ 0 then y else z
set_option maxHeartbeats 400000 in
theorem or3 (g : Nat) (x y z : Int) (w : World) (c0 : w.cell? ⟨g, 0, none⟩ = some (.int .i64 x)) (c1 : w.cell? ⟨g, 1, none⟩ = some (.int .i64 y)) (c2 : w.cell? ⟨g, 2, none⟩ = some (.int .i64 z)) :
    Calls Try.prog 47 #[.slice (some ⟨g, 0, none⟩) 3 3] w fun e w' => e = .returned (.int .i64 (or3I x y z)) ∧ w = w' := by
  by_cases hx : x = 0
  · by_cases hy : y = 0
    · subst hx hy
      have E : Hid (or3I 0 0 z = z) := rfl
      by_cases hz : z = 0
      · subst hz
        go_enter Try.func47, Try.ntmps47
        go_wp2
        refine wp_loop_rounds 4 ?_
        iterate 4 (rw [rounds_succ]; go_wp2)
        go_ret
        exact ⟨rfl, rfl⟩
      · have h1 : (z != 0) = true := by simp; omega
        go_enter Try.func47, Try.ntmps47
        go_wp2
        refine wp_loop_rounds 4 ?_
        iterate 3 (rw [rounds_succ]; go_wp2)
        go_ret
        exact ⟨retI E.out.symm, rfl⟩
    · subst hx
      have h1 : (y != 0) = true := by simp; omega
      have E : Hid (or3I 0 y z = y) := by unfold Hid or3I; rw [if_neg (by simp), if_pos hy]
      clear hy
      go_enter Try.func47, Try.ntmps47
      go_wp2
      refine wp_loop_rounds 4 ?_
      iterate 2 (rw [rounds_succ]; go_wp2)
      go_ret
      exact ⟨retI E.out.symm, rfl⟩
  · have h1 : (x != 0) = true := by simp; omega
    have E : Hid (or3I x y z = x) := by unfold Hid or3I; rw [if_pos hx]
    clear hx
    go_enter Try.func47, Try.ntmps47
    go_wp2
    refine wp_loop_rounds 4 ?_
    rw [rounds_succ]
    go_wp2
    go_ret
    exact ⟨retI E.out.symm, rfl⟩
theorem or3' (g : Nat) (x y z : Int) (w : World) {t : TypeId} {f : Nat × Nat} (h : w.heap[g]? = some (.cells #[.int .i64 x, .int .i64 y, .int .i64 z] t f)) :
    Calls Try.prog 47 #[.slice (some ⟨g, 0, none⟩) 3 3] w fun e w' => e = .returned (.int .i64 (or3I x y z)) ∧ w = w' :=
  or3 g x y z w (by rw [blk_cell h]; rfl) (by rw [blk_cell h]; rfl) (by rw [blk_cell h]; rfl)
end Go.Proofs.Yteccpjijlkjneaa
