/- The contracts of numbers of three words: sum, difference; the product of two words. Asked: that all are words. -/
import Derived.Test.YtbkopmgfkokmgaaWide1
import Derived.Test.YtbkopmgfkokmgaaRat2
import Derived.Test.YtbkopmgfkokmgaaLz
import Derived.Deep.DeepCutAuto
namespace Go.Proofs.Ytbkopmgfkokmgaa
open Go.RowKit
theorem add_run (x y c s k : Int) (w : World) (x0 : 0 ≤ x) (y0 : 0 ≤ y) (c0 : 0 ≤ c) (c1 : c ≤ 1) (hs : (x + y + c) % 18446744073709551616 = s) (hk : (x + y + c) / 18446744073709551616 = k) :
    (callFunc 42 #[.int .u64 x, .int .u64 y, .int .u64 c]).run Try.prog w = .ok (.value (.tuple #[.int .u64 s, .int .u64 k])) w := by
  obtain ⟨a, rfl⟩ := Int.eq_ofNat_of_zero_le x0
  obtain ⟨b, rfl⟩ := Int.eq_ofNat_of_zero_le y0
  obtain ⟨d, rfl⟩ := Int.eq_ofNat_of_zero_le c0
  have h := Try.bits_Add64 a b d (by omega) w
  rw [h, show (((a + b + d) % 18446744073709551616 : Nat) : Int) = s by omega, show (((a + b + d) / 18446744073709551616 : Nat) : Int) = k by omega]
theorem sub_run (x y c s k : Int) (w : World) (x0 : 0 ≤ x) (y0 : 0 ≤ y) (y1 : y ≤ 18446744073709551615) (c0 : 0 ≤ c) (c1 : c ≤ 1) (hs : (x - y - c) % 18446744073709551616 = s) (hk : (if x < y + c then 1 else 0) = k) :
    (callFunc 43 #[.int .u64 x, .int .u64 y, .int .u64 c]).run Try.prog w = .ok (.value (.tuple #[.int .u64 s, .int .u64 k])) w := by
  obtain ⟨a, rfl⟩ := Int.eq_ofNat_of_zero_le x0
  obtain ⟨b, rfl⟩ := Int.eq_ofNat_of_zero_le y0
  obtain ⟨d, rfl⟩ := Int.eq_ofNat_of_zero_le c0
  have h := Try.bits_Sub64 a b d (by omega) w
  have e2 : (((if a < b + d then 1 else 0 : Nat)) : Int) = k := by
    rw [← hk]
    by_cases h1 : a < b + d
    · rw [if_pos h1, if_pos (by omega)]; rfl
    · rw [if_neg h1, if_neg (by omega)]; rfl
  rw [h, show (((a + 18446744073709551616 - b - d) % 18446744073709551616 : Nat) : Int) = s by omega, e2]
set_option maxRecDepth 100000 in
set_option maxHeartbeats 1000000 in
theorem wplus_raw (x0 x1 x2 y0 y1 y2 s0 s1 s2 k0 k1 k2 : Int) (w : World) (a0 : 0 ≤ x0) (a1 : 0 ≤ x1) (a2 : 0 ≤ x2) (b0 : 0 ≤ y0) (b1 : 0 ≤ y1) (b2 : 0 ≤ y2) (c0 : y0 ≤ 18446744073709551615) (c1 : y1 ≤ 18446744073709551615) (c2 : y2 ≤ 18446744073709551615) (d1 : 0 ≤ k1 ∧ k1 ≤ 1) (d2 : 0 ≤ k2 ∧ k2 ≤ 1)
    (e2 : (x2 + y2 + 0) % 18446744073709551616 = s2) (f2 : (x2 + y2 + 0) / 18446744073709551616 = k2) (e1 : (x1 + y1 + k2) % 18446744073709551616 = s1) (f1 : (x1 + y1 + k2) / 18446744073709551616 = k1) (e0 : (x0 + y0 + k1) % 18446744073709551616 = s0) (f0 : (x0 + y0 + k1) / 18446744073709551616 = k0) :
    Calls Try.prog 36 #[.agg #[.int .u64 x0, .int .u64 x1, .int .u64 x2], .agg #[.int .u64 y0, .int .u64 y1, .int .u64 y2]] w fun e w' => e = .returned (.agg #[.int .u64 s0, .int .u64 s1, .int .u64 s2]) ∧ Below w.heap.size w w' := by
  have g2 : ∀ W, (callFunc 42 #[.int .u64 x2, .int .u64 y2, .int .u64 0]).run Try.prog W = .ok (.value (.tuple #[.int .u64 s2, .int .u64 k2])) W := fun W => by
    exact add_run _ _ _ _ _ W (by omega) (by omega) (by omega) (by omega) e2 f2
  have g1 : ∀ W, (callFunc 42 #[.int .u64 x1, .int .u64 y1, .int .u64 k2]).run Try.prog W = .ok (.value (.tuple #[.int .u64 s1, .int .u64 k1])) W := fun W => by
    exact add_run _ _ _ _ _ W (by omega) (by omega) (by omega) (by omega) e1 f1
  have g0 : ∀ W, (callFunc 42 #[.int .u64 x0, .int .u64 y0, .int .u64 k1]).run Try.prog W = .ok (.value (.tuple #[.int .u64 s0, .int .u64 k0])) W := fun W => by
    exact add_run _ _ _ _ _ W (by omega) (by omega) (by omega) (by omega) e0 f0
  have G2 := hid g2
  have G1 := hid g1
  have G0 := hid g0
  clear g0 g1 g2 e0 e1 e2 f0 f1 f2 a0 a1 a2 b0 b1 b2 c0 c1 c2 d1 d2
  go_enter Try.func36, Try.ntmps36
  have g2 := G2.out
  have g1 := G1.out
  have g0 := G0.out
  go_wp2
  refine ret_row1 rfl (w.heap.size + 1 + 1) #[.int .u64 s0, .int .u64 s1, .int .u64 s2] 63 _ rfl Try.underlying63 rfl infoW rfl (by apply Exists.intro; refine ⟨?_, ?_⟩; (focus ((repeat (first | (with_reducible assumption) | (with_reducible exact alloc_at _ _) | ((with_reducible apply alloc_at'); (simp; done)) | (with_reducible apply alloc_at_lt) | (with_reducible apply heap_drew_at) | (with_reducible apply heap_drewN_at) | (with_reducible apply heap_setCell_same) | ((with_reducible apply heap_set_ne); (first | omega | (dsimp only; omega) | (simp; done) | (simp; omega))) | (with_reducible apply setRow_at) | ((with_reducible apply setRow_ne); (first | omega | (dsimp only; omega) | (simp; done) | (simp; omega))))))); simp) ⟨rfl, (by repeat (first | with_reducible assumption | with_reducible exact Below.refl _ _ | with_reducible refine Below.drew ?_ | with_reducible refine below_drewN ?_ _ | with_reducible refine below_alloc ?_ _ | with_reducible refine Below.alloc ?_ (by first | omega | (simp; done) | (simp; omega)) _ | with_reducible refine Below.setCell ?_ (by first | omega | (simp; done) | (simp; omega)) _ | with_reducible refine below_setRow ?_ (by first | omega | (simp; done) | (simp; omega)) _))⟩
set_option maxRecDepth 100000 in
set_option maxHeartbeats 1000000 in
theorem wminus_raw (x0 x1 x2 y0 y1 y2 s0 s1 s2 k0 k1 k2 : Int) (w : World) (a0 : 0 ≤ x0) (a1 : 0 ≤ x1) (a2 : 0 ≤ x2) (b0 : 0 ≤ y0) (b1 : 0 ≤ y1) (b2 : 0 ≤ y2) (c0 : y0 ≤ 18446744073709551615) (c1 : y1 ≤ 18446744073709551615) (c2 : y2 ≤ 18446744073709551615) (d1 : 0 ≤ k1 ∧ k1 ≤ 1) (d2 : 0 ≤ k2 ∧ k2 ≤ 1)
    (e2 : (x2 - y2 - 0) % 18446744073709551616 = s2) (f2 : (if x2 < y2 + 0 then 1 else 0) = k2) (e1 : (x1 - y1 - k2) % 18446744073709551616 = s1) (f1 : (if x1 < y1 + k2 then 1 else 0) = k1) (e0 : (x0 - y0 - k1) % 18446744073709551616 = s0) (f0 : (if x0 < y0 + k1 then 1 else 0) = k0) :
    Calls Try.prog 37 #[.agg #[.int .u64 x0, .int .u64 x1, .int .u64 x2], .agg #[.int .u64 y0, .int .u64 y1, .int .u64 y2]] w fun e w' => e = .returned (.agg #[.int .u64 s0, .int .u64 s1, .int .u64 s2]) ∧ Below w.heap.size w w' := by
  have g2 : ∀ W, (callFunc 43 #[.int .u64 x2, .int .u64 y2, .int .u64 0]).run Try.prog W = .ok (.value (.tuple #[.int .u64 s2, .int .u64 k2])) W := fun W => by
    exact sub_run _ _ _ _ _ W (by omega) (by omega) (by omega) (by omega) (by omega) e2 f2
  have g1 : ∀ W, (callFunc 43 #[.int .u64 x1, .int .u64 y1, .int .u64 k2]).run Try.prog W = .ok (.value (.tuple #[.int .u64 s1, .int .u64 k1])) W := fun W => by
    exact sub_run _ _ _ _ _ W (by omega) (by omega) (by omega) (by omega) (by omega) e1 f1
  have g0 : ∀ W, (callFunc 43 #[.int .u64 x0, .int .u64 y0, .int .u64 k1]).run Try.prog W = .ok (.value (.tuple #[.int .u64 s0, .int .u64 k0])) W := fun W => by
    exact sub_run _ _ _ _ _ W (by omega) (by omega) (by omega) (by omega) (by omega) e0 f0
  have G2 := hid g2
  have G1 := hid g1
  have G0 := hid g0
  clear g0 g1 g2 e0 e1 e2 f0 f1 f2 a0 a1 a2 b0 b1 b2 c0 c1 c2 d1 d2
  go_enter Try.func37, Try.ntmps37
  have g2 := G2.out
  have g1 := G1.out
  have g0 := G0.out
  go_wp2
  refine ret_row1 rfl (w.heap.size + 1 + 1) #[.int .u64 s0, .int .u64 s1, .int .u64 s2] 63 _ rfl Try.underlying63 rfl infoW rfl (by apply Exists.intro; refine ⟨?_, ?_⟩; (focus ((repeat (first | (with_reducible assumption) | (with_reducible exact alloc_at _ _) | ((with_reducible apply alloc_at'); (simp; done)) | (with_reducible apply alloc_at_lt) | (with_reducible apply heap_drew_at) | (with_reducible apply heap_drewN_at) | (with_reducible apply heap_setCell_same) | ((with_reducible apply heap_set_ne); (first | omega | (dsimp only; omega) | (simp; done) | (simp; omega))) | (with_reducible apply setRow_at) | ((with_reducible apply setRow_ne); (first | omega | (dsimp only; omega) | (simp; done) | (simp; omega))))))); simp) ⟨rfl, (by repeat (first | with_reducible assumption | with_reducible exact Below.refl _ _ | with_reducible refine Below.drew ?_ | with_reducible refine below_drewN ?_ _ | with_reducible refine below_alloc ?_ _ | with_reducible refine Below.alloc ?_ (by first | omega | (simp; done) | (simp; omega)) _ | with_reducible refine Below.setCell ?_ (by first | omega | (simp; done) | (simp; omega)) _ | with_reducible refine below_setRow ?_ (by first | omega | (simp; done) | (simp; omega)) _))⟩
set_option maxRecDepth 100000 in
set_option maxHeartbeats 400000 in
theorem wtimes_any (x y : Int) (w : World) (x0 : 0 ≤ x) (x1 : x ≤ 18446744073709551615) (y0 : 0 ≤ y) (y1 : y ≤ 18446744073709551615) :
    Calls Try.prog 35 #[.int .u64 x, .int .u64 y] w fun e w' => e = .returned (.agg #[.int .u64 0, .int .u64 (x * y / 18446744073709551616), .int .u64 (x * y % 18446744073709551616)]) ∧ Below w.heap.size w w' := by
  have hm : ∀ W, Calls Try.prog 22 #[.int .u64 x, .int .u64 y] W fun e w' => e = .returned (.tuple #[.int .u64 (x * y / 18446744073709551616), .int .u64 (x * y % 18446744073709551616)]) ∧ W = w' := fun W => mul_any x y W x0 x1 y0 y1
  generalize x * y / 18446744073709551616 = p at *
  generalize x * y % 18446744073709551616 = q at *
  have HM := hid hm
  clear hm x0 x1 y0 y1
  go_enter Try.func35, Try.ntmps35
  go_wp2_with fail
  refine (HM.out _).mono ?_
  rintro e w1 ⟨rfl, rfl⟩
  go_wp2
  refine ret_row1 rfl w.heap.size #[.int .u64 0, .int .u64 p, .int .u64 q] 63 _ rfl Try.underlying63 rfl infoW rfl (by apply Exists.intro; refine ⟨?_, ?_⟩; (focus ((repeat (first | (with_reducible assumption) | (with_reducible exact alloc_at _ _) | ((with_reducible apply alloc_at'); (simp; done)) | (with_reducible apply alloc_at_lt) | (with_reducible apply heap_drew_at) | (with_reducible apply heap_drewN_at) | (with_reducible apply heap_setCell_same) | ((with_reducible apply heap_set_ne); (first | omega | (dsimp only; omega) | (simp; done) | (simp; omega))) | (with_reducible apply setRow_at) | ((with_reducible apply setRow_ne); (first | omega | (dsimp only; omega) | (simp; done) | (simp; omega))))))); simp) ⟨rfl, (by repeat (first | with_reducible assumption | with_reducible exact Below.refl _ _ | with_reducible refine Below.drew ?_ | with_reducible refine below_drewN ?_ _ | with_reducible refine below_alloc ?_ _ | with_reducible refine Below.alloc ?_ (by first | omega | (simp; done) | (simp; omega)) _ | with_reducible refine Below.setCell ?_ (by first | omega | (simp; done) | (simp; omega)) _ | with_reducible refine below_setRow ?_ (by first | omega | (simp; done) | (simp; omega)) _))⟩
/-- The sum of two that are each less than 2^128: no word is lost. -/
theorem wplus_any (x1 x2 y1 y2 : Int) (x10 : 0 ≤ x1) (x11 : x1 ≤ 18446744073709551615) (x20 : 0 ≤ x2) (x21 : x2 ≤ 18446744073709551615) (y10 : 0 ≤ y1) (y11 : y1 ≤ 18446744073709551615) (y20 : 0 ≤ y2) (y21 : y2 ≤ 18446744073709551615) : ∃ s0 s1 s2 : Int, (0 ≤ s0 ∧ s0 ≤ 18446744073709551615) ∧ (0 ≤ s1 ∧ s1 ≤ 18446744073709551615) ∧ (0 ≤ s2 ∧ s2 ≤ 18446744073709551615) ∧ wideN s0 s1 s2 = wideN 0 x1 x2 + wideN 0 y1 y2 ∧
    ∀ w, Calls Try.prog 36 #[.agg #[.int .u64 0, .int .u64 x1, .int .u64 x2], .agg #[.int .u64 0, .int .u64 y1, .int .u64 y2]] w fun e w' => e = .returned (.agg #[.int .u64 s0, .int .u64 s1, .int .u64 s2]) ∧ Below w.heap.size w w' := by
  obtain ⟨s2, e2⟩ : ∃ x, (x2 + y2 + 0) % 18446744073709551616 = x := ⟨_, rfl⟩
  obtain ⟨k2, f2⟩ : ∃ x, (x2 + y2 + 0) / 18446744073709551616 = x := ⟨_, rfl⟩
  obtain ⟨s1, e1⟩ : ∃ x, (x1 + y1 + k2) % 18446744073709551616 = x := ⟨_, rfl⟩
  obtain ⟨k1, f1⟩ : ∃ x, (x1 + y1 + k2) / 18446744073709551616 = x := ⟨_, rfl⟩
  obtain ⟨s0, e0⟩ : ∃ x, (0 + 0 + k1) % 18446744073709551616 = x := ⟨_, rfl⟩
  obtain ⟨k0, f0⟩ : ∃ x, (0 + 0 + k1) / 18446744073709551616 = x := ⟨_, rfl⟩
  refine ⟨s0, s1, s2, by omega, by omega, by omega, ?_, fun w => wplus_raw 0 x1 x2 0 y1 y2 s0 s1 s2 k0 k1 k2 w (by omega) (by omega) (by omega) (by omega) (by omega) (by omega) (by omega) (by omega) (by omega) (by omega) (by omega) e2 f2 e1 f1 e0 f0⟩
  unfold wideN
  omega
/-- The difference, where it isn't below nought. -/
theorem wminus_any (x1 x2 y1 y2 : Int) (x10 : 0 ≤ x1) (x11 : x1 ≤ 18446744073709551615) (x20 : 0 ≤ x2) (x21 : x2 ≤ 18446744073709551615) (y10 : 0 ≤ y1) (y11 : y1 ≤ 18446744073709551615) (y20 : 0 ≤ y2) (y21 : y2 ≤ 18446744073709551615) (hle : wideN 0 y1 y2 ≤ wideN 0 x1 x2) : ∃ s0 s1 s2 : Int, (0 ≤ s0 ∧ s0 ≤ 18446744073709551615) ∧ (0 ≤ s1 ∧ s1 ≤ 18446744073709551615) ∧ (0 ≤ s2 ∧ s2 ≤ 18446744073709551615) ∧ wideN s0 s1 s2 = wideN 0 x1 x2 - wideN 0 y1 y2 ∧
    ∀ w, Calls Try.prog 37 #[.agg #[.int .u64 0, .int .u64 x1, .int .u64 x2], .agg #[.int .u64 0, .int .u64 y1, .int .u64 y2]] w fun e w' => e = .returned (.agg #[.int .u64 s0, .int .u64 s1, .int .u64 s2]) ∧ Below w.heap.size w w' := by
  obtain ⟨s2, e2⟩ : ∃ x, (x2 - y2 - 0) % 18446744073709551616 = x := ⟨_, rfl⟩
  obtain ⟨k2, f2⟩ : ∃ x : Int, (if x2 < y2 + 0 then 1 else 0) = x := ⟨_, rfl⟩
  obtain ⟨s1, e1⟩ : ∃ x, (x1 - y1 - k2) % 18446744073709551616 = x := ⟨_, rfl⟩
  obtain ⟨k1, f1⟩ : ∃ x : Int, (if x1 < y1 + k2 then 1 else 0) = x := ⟨_, rfl⟩
  obtain ⟨s0, e0⟩ : ∃ x, (0 - 0 - k1) % 18446744073709551616 = x := ⟨_, rfl⟩
  obtain ⟨k0, f0⟩ : ∃ x : Int, (if 0 < 0 + k1 then 1 else 0) = x := ⟨_, rfl⟩
  have g2 : 0 ≤ k2 ∧ k2 ≤ 1 := by rw [← f2]; split <;> omega
  have g1 : 0 ≤ k1 ∧ k1 ≤ 1 := by rw [← f1]; split <;> omega
  refine ⟨s0, s1, s2, by omega, by omega, by omega, ?_, fun w => wminus_raw 0 x1 x2 0 y1 y2 s0 s1 s2 k0 k1 k2 w (by omega) (by omega) (by omega) (by omega) (by omega) (by omega) (by omega) (by omega) (by omega) g1 g2 e2 f2 e1 f1 e0 f0⟩
  unfold wideN at *
  have h2 : x2 - y2 - 0 = s2 - k2 * 18446744073709551616 := by
    rw [← f2]; split <;> omega
  have h1 : x1 - y1 - k2 = s1 - k1 * 18446744073709551616 := by
    rw [← f1]; split <;> omega
  omega
end Go.Proofs.Ytbkopmgfkokmgaa
