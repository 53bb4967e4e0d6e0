/- The walk of chapter 13's awake: it answers true. -/
import Derived.Test.YtobgolceggeogaaLed6
namespace Go.Proofs.Ytobgolceggeogaa
open Go.RowKit
theorem holdsE_one {w : World} {b : Nat} {s : ByteArray} {x0 x1 x2 x3 : Int} {t : TypeId} {f : Nat × Nat} (hs : s.size ≤ maxLen) (h : w.heap[b]? = some (.cells #[.string s, .int .i64 x0, .int .i64 x1, .int .i64 x2, .int .i64 x3] t f)) : SlE w (some ⟨b, 0, none⟩) 1 [(s, x0, x1, x2, x3)] := by
  refine ⟨rfl, .inr ⟨b, 0, rfl, lt_of_at h, ?_⟩⟩
  intro j hj
  have hj' : j < 1 := hj
  obtain rfl : j = 0 := by omega
  simp [blk_cell h, hs]
def sa : ByteArray := ⟨#[97]⟩
def sb' : ByteArray := ⟨#[98]⟩
theorem sa_le : sa.size ≤ maxLen := by unfold maxLen; exact of_decide_eq_true (by kernel_rfl)
theorem sb_le : sb'.size ≤ maxLen := by unfold maxLen; exact of_decide_eq_true (by kernel_rfl)
set_option maxHeartbeats 2000000 in
theorem awake_any (w : World) : Calls Try.prog 9 #[] w fun e w' => e = .returned (.bool true) ∧ Below w.heap.size w w' := by
  go_enter Try.func9, Try.ntmps9
  go_wp2_with fail
  refine (new_b w.heap.size w (Nat.le_refl _)).mono ?_
  rintro e w1 ⟨rfl, hb1, hL1⟩
  have hs1 := hb1.size
  go_wp2_with fail
  refine (open_b w.heap.size w.heap.size 0 noA sa 4 0 0 0 w1 hs1 hL1 sa_le).mono ?_
  rintro e w2 ⟨he2, hL2, hB2, -⟩
  obtain rfl : e = .returned (.int .i64 0) := he2
  have B2 : Below w.heap.size w w2 := hb1.trans hB2
  have hs2 := B2.size
  clear hL1 hB2
  go_wp2_with fail
  refine (take_b w.heap.size w.heap.size _ _ (some ⟨w2.heap.size, 0, none⟩) 1 1 [(sa, 3, 0, 0, 0)] _ (by simp; omega) (hL2.below ((Below.refl _ _).alloc (Nat.le_refl _) _)) (by unfold maxLen; simp) (holdsE_one sa_le (alloc_at _ _))).mono ?_
  rintro e w3 ⟨he3, hL3, hB3, -⟩
  obtain rfl : e = .returned (.int .i64 0) := he3
  have B3 : Below w.heap.size w w3 := Below.trans (B2.alloc hs2 _) hB3
  have hs3 := B3.size
  clear hL2 hB3
  go_wp2_with fail
  refine (left_b w.heap.size w.heap.size _ _ sa w3 hL3 sa_le).mono ?_
  rintro e w4 ⟨he4, hb4⟩
  obtain rfl : e = .returned (.tuple #[.agg #[.int .i64 1, .int .i64 0, .int .i64 0, .int .i64 0], .int .i64 0]) := he4
  clear hL3
  have B4 : Below w.heap.size w w4 := B3.trans (hb4.mono hs3)
  have hs4 := B4.size
  go_wp2
  go_ret
  exact ⟨by first | rfl | simp, (by repeat (first | with_reducible assumption | with_reducible exact Below.refl _ _ | with_reducible refine Below.drew ?_ | with_reducible refine below_drewN ?_ _ | with_reducible refine below_alloc ?_ _ | with_reducible refine Below.alloc ?_ (by first | omega | (simp; done) | (simp; omega)) _ | with_reducible refine Below.setCell ?_ (by first | omega | (simp; done) | (simp; omega)) _ | with_reducible refine below_setRow ?_ (by first | omega | (simp; done) | (simp; omega)) _))⟩
end Go.Proofs.Ytobgolceggeogaa
