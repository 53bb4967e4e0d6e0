/- Chapter 8's Get, Min, Decrease over a heap whose slice is not opened. -/
import Derived.Test.YthdbiablpkeagaaFbZ
import Derived.Test.YthdbiablpkeagaaFbU
import Derived.Test.YthdbiablpkeagaaWFibS
namespace Go.Proofs.Ythdbiablpkeagaa
open Go.RowKit
variable {B H g cap : Nat} {w w' : World} {s s' : Hp} {least n : Int}
theorem Good.ok (h : Good s least n) {x : Nat} (hx : s.th x = true) : okK (s.key x) ∧ x < s.m := by
  obtain ⟨-, -, kids, L, hF, -⟩ := h
  exact ⟨hF.okk x hx, hF.ltm x hx⟩
theorem get_v {v : Value} (h : HeapV B w H v s least n) (hg : Good s least n) {x : Nat} (hx : s.th x = true) : Calls Try.prog 16 #[.pointer (some ⟨H, 0, none⟩), .int .i64 x] w fun e w' => e = .returned (.tuple #[.agg #[.int .u64 (s.key x).1, .int .u64 (s.key x).2.1, .int .i64 (s.key x).2.2], .int .i64 0]) ∧ Below w.heap.size w w' := by
  have hm := (hg.ok hx).2
  obtain ⟨g, cap, rfl, hG⟩ := h.open_ (by omega)
  exact get_yes hG hm hx
theorem dec_v {v : Value} (h : HeapV B w H v s least n) (hg : Good s least n) {x : Nat} (k : K3) (hx : s.th x = true) (hk : okK k) (hle : ¬ gtK k (s.key x)) :
    Calls Try.prog 17 #[.pointer (some ⟨H, 0, none⟩), .int .i64 x, .agg #[.int .u64 k.1, .int .u64 k.2.1, .int .i64 k.2.2]] w fun e w' => e = .returned (.int .i64 0) ∧ ∃ s' least', HeapV B w' H v s' least' n ∧ Good s' least' n ∧ SameK (s.setK x k) s' ∧ Tur (FootV H v) w w' := by
  obtain ⟨ho, hm⟩ := hg.ok hx
  obtain ⟨g, cap, rfl, hG⟩ := h.open_ (by omega)
  refine (decrease_ok x k hG hg hx hm hk hle ho).mono ?_
  rintro e w' ⟨rfl, s', least', h2, g2, sk, t2⟩
  have em : s'.m = s.m := sk.1
  have h3 := h2.toV
  rw [em] at h3
  exact ⟨rfl, s', least', h3, g2, sk, t2.gv⟩
theorem min_v {v : Value} (h : HeapV B w H v s least n) (hg : Good s least n) {x : Nat} (hx : s.th x = true) : ∃ y, s.th y = true ∧ (y = x ∨ s.lt y x) ∧ Calls Try.prog 18 #[.pointer (some ⟨H, 0, none⟩)] w fun e w' => e = .returned (.tuple #[.int .i64 y, .agg #[.int .u64 (s.key y).1, .int .u64 (s.key y).2.1, .int .i64 (s.key y).2.2], .int .i64 0]) ∧ Below w.heap.size w w' := by
  rcases hg.min with ⟨-, -, h3⟩ | ⟨y, hl, hy, ty, hn, hmin⟩
  · rw [h3] at hx; cases hx
  · obtain ⟨g, cap, rfl, hG⟩ := h.open_ (by omega)
    refine ⟨y, ty, (hmin x hx).imp Eq.symm id, min_some hG hl hy hg.1 hn⟩
/-- A key whose ratio is halved is not ahead of itself. -/
theorem half_ok {k : K3} (hk : okK k) : okK (k.1 / 2, k.2.1, k.2.2) ∧ ¬ gtK (k.1 / 2, k.2.1, k.2.2) k := by
  obtain ⟨⟨h1, h2, h3⟩, h4⟩ := hk
  refine ⟨⟨⟨by show 0 ≤ k.1 / 2; omega, by show k.1 / 2 ≤ _; omega, h3⟩, h4⟩, ?_⟩
  unfold gtK
  have : k.1 / 2 * k.2.1 ≤ k.1 * k.2.1 := Int.mul_le_mul_of_nonneg_right (by omega) (by omega)
  simp only
  omega
theorem comp_self {k : K3} (hk : okK k) : compI k k = 0 := by
  have e : cmpR k.1 k.2.1 k.1 k.2.1 = (cmpZ (k.1 * k.2.1) (k.1 * k.2.1), 0) := by
    unfold cmpR
    rw [if_neg (by have := hk.2; omega)]
  have hz : cmpZ (k.1 * k.2.1) (k.1 * k.2.1) = 0 := by unfold cmpZ; rw [if_neg (by omega), if_neg (by omega)]
  unfold compI
  rw [e, hz, if_neg (by simp)]
end Go.Proofs.Ythdbiablpkeagaa
