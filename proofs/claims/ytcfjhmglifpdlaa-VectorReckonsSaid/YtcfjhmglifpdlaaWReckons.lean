/- The walk of VectorReckons: every two vectors have the sum and the difference that the reference has. No condition. -/
import Derived.Test.YtcfjhmglifpdlaaVec6
namespace Go.Proofs.Ytcfjhmglifpdlaa
open Go.RowKit
set_option maxHeartbeats 2000000 in
theorem vectorReckons_any (a b c d a' b' c' d' : Int) (w : World) : Calls Try.prog 4 #[.agg #[.int .i64 a, .int .i64 b, .int .i64 c, .int .i64 d], .agg #[.int .i64 a', .int .i64 b', .int .i64 c', .int .i64 d']] w fun e w' => e = .returned (.bool true) ∧ Below w.heap.size w w' := by
  obtain ⟨⟨⟨r0, r1, r2, r3⟩, n⟩, hr⟩ : ∃ r, addR (a, b, c, d) (a', b', c', d') = r := ⟨_, rfl⟩
  obtain ⟨⟨⟨q0, q1, q2, q3⟩, m⟩, hq⟩ : ∃ r, subR (a, b, c, d) (a', b', c', d') = r := ⟨_, rfl⟩
  have hA : ∀ W, Calls Try.prog 12 #[.agg #[.int .i64 a, .int .i64 b, .int .i64 c, .int .i64 d], .agg #[.int .i64 a', .int .i64 b', .int .i64 c', .int .i64 d']] W fun e w' => e = .returned (.tuple #[.agg #[.int .i64 r0, .int .i64 r1, .int .i64 r2, .int .i64 r3], .int .i64 n]) ∧ Below W.heap.size W w' := fun W => by
    have h := add_any a b c d a' b' c' d' W
    rw [hr] at h; exact h
  have hRA : ∀ W, Calls Try.prog 13 #[.agg #[.int .i64 a, .int .i64 b, .int .i64 c, .int .i64 d], .agg #[.int .i64 a', .int .i64 b', .int .i64 c', .int .i64 d']] W fun e w' => e = .returned (.tuple #[.agg #[.int .i64 r0, .int .i64 r1, .int .i64 r2, .int .i64 r3], .int .i64 n]) ∧ Below W.heap.size W w' := fun W => by
    have h := radd_any a b c d a' b' c' d' W
    rw [hr] at h; exact h
  have hS : ∀ W, Calls Try.prog 14 #[.agg #[.int .i64 a, .int .i64 b, .int .i64 c, .int .i64 d], .agg #[.int .i64 a', .int .i64 b', .int .i64 c', .int .i64 d']] W fun e w' => e = .returned (.tuple #[.agg #[.int .i64 q0, .int .i64 q1, .int .i64 q2, .int .i64 q3], .int .i64 m]) ∧ Below W.heap.size W w' := fun W => by
    have h := sub_any a b c d a' b' c' d' W
    rw [hq] at h; exact h
  have hRS : ∀ W, Calls Try.prog 15 #[.agg #[.int .i64 a, .int .i64 b, .int .i64 c, .int .i64 d], .agg #[.int .i64 a', .int .i64 b', .int .i64 c', .int .i64 d']] W fun e w' => e = .returned (.tuple #[.agg #[.int .i64 q0, .int .i64 q1, .int .i64 q2, .int .i64 q3], .int .i64 m]) ∧ Below W.heap.size W w' := fun W => by
    have h := rsub_any a b c d a' b' c' d' W
    rw [hq] at h; exact h
  have HA := hid hA
  have HRA := hid hRA
  have HS := hid hS
  have HRS := hid hRS
  clear hA hRA hS hRS hr hq
  go_enter Try.func4, Try.ntmps4
  go_wp2_with fail
  refine (awake_any _).mono ?_
  rintro e w1 ⟨rfl, hb1⟩
  have hs1 := hb1.size
  try simp only [World.size_alloc] at hs1
  have X_1 : w1.heap[w.heap.size]? = some (.cells #[.int .i64 a, .int .i64 b, .int .i64 c, .int .i64 d] 25 (0, 0)) := below_at hb1 (by first | omega | (simp; done) | (simp; omega)) (by (repeat (first | (with_reducible assumption) | (with_reducible exact alloc_at _ _) | ((with_reducible apply alloc_at'); (simp; done)) | (with_reducible apply alloc_at_lt) | (with_reducible apply heap_drew_at) | (with_reducible apply heap_drewN_at) | (with_reducible apply heap_setCell_same) | ((with_reducible apply heap_set_ne); (first | omega | (simp; done) | (simp; omega))))))
  have Y_1 : w1.heap[w.heap.size + 1]? = some (.cells #[.int .i64 a', .int .i64 b', .int .i64 c', .int .i64 d'] 25 (0, 0)) := below_at hb1 (by first | omega | (simp; done) | (simp; omega)) (by (repeat (first | (with_reducible assumption) | (with_reducible exact alloc_at _ _) | ((with_reducible apply alloc_at'); (simp; done)) | (with_reducible apply alloc_at_lt) | (with_reducible apply heap_drew_at) | (with_reducible apply heap_drewN_at) | (with_reducible apply heap_setCell_same) | ((with_reducible apply heap_set_ne); (first | omega | (simp; done) | (simp; omega))))))
  have B1 : Below w.heap.size w w1 := Below.trans (by repeat (first | with_reducible assumption | with_reducible exact Below.refl _ _ | with_reducible refine Below.drew ?_ | with_reducible refine below_drewN ?_ _ | with_reducible refine below_alloc ?_ _ | with_reducible refine Below.alloc ?_ (by first | omega | (simp; done) | (simp; omega)) _ | with_reducible refine Below.setCell ?_ (by first | omega | (simp; done) | (simp; omega)) _)) (hb1.mono (by first | omega | (simp; done) | (simp; omega)))
  clear hb1
  try clear Xc0 Xc1 Xc2 Xc3 Xcf
  try clear Yc0 Yc1 Yc2 Yc3 Ycf
  obtain ⟨Xc0, Xc1, Xc2, Xc3, Xcf⟩ := four X_1
  obtain ⟨Yc0, Yc1, Yc2, Yc3, Ycf⟩ := four Y_1
  have Xl1 : w.heap.size < w1.heap.size := by omega
  have Yl1 : w.heap.size + 1 < w1.heap.size := by omega
  go_wp2_with fail
  refine (HA.out _).mono ?_
  rintro e w2 ⟨rfl, hb2⟩
  have hs2 := hb2.size
  try simp only [World.size_alloc] at hs2
  have X_2 : w2.heap[w.heap.size]? = some (.cells #[.int .i64 a, .int .i64 b, .int .i64 c, .int .i64 d] 25 (0, 0)) := below_at hb2 (by first | omega | (simp; done) | (simp; omega)) (by (repeat (first | (with_reducible assumption) | (with_reducible exact alloc_at _ _) | ((with_reducible apply alloc_at'); (simp; done)) | (with_reducible apply alloc_at_lt) | (with_reducible apply heap_drew_at) | (with_reducible apply heap_drewN_at) | (with_reducible apply heap_setCell_same) | ((with_reducible apply heap_set_ne); (first | omega | (simp; done) | (simp; omega))))))
  have Y_2 : w2.heap[w.heap.size + 1]? = some (.cells #[.int .i64 a', .int .i64 b', .int .i64 c', .int .i64 d'] 25 (0, 0)) := below_at hb2 (by first | omega | (simp; done) | (simp; omega)) (by (repeat (first | (with_reducible assumption) | (with_reducible exact alloc_at _ _) | ((with_reducible apply alloc_at'); (simp; done)) | (with_reducible apply alloc_at_lt) | (with_reducible apply heap_drew_at) | (with_reducible apply heap_drewN_at) | (with_reducible apply heap_setCell_same) | ((with_reducible apply heap_set_ne); (first | omega | (simp; done) | (simp; omega))))))
  have B2 : Below w.heap.size w w2 := Below.trans (by repeat (first | with_reducible assumption | with_reducible exact Below.refl _ _ | with_reducible refine Below.drew ?_ | with_reducible refine below_drewN ?_ _ | with_reducible refine below_alloc ?_ _ | with_reducible refine Below.alloc ?_ (by first | omega | (simp; done) | (simp; omega)) _ | with_reducible refine Below.setCell ?_ (by first | omega | (simp; done) | (simp; omega)) _)) (hb2.mono (by first | omega | (simp; done) | (simp; omega)))
  clear hb2 X_1 Y_1
  try clear Xc0 Xc1 Xc2 Xc3 Xcf
  try clear Yc0 Yc1 Yc2 Yc3 Ycf
  obtain ⟨Xc0, Xc1, Xc2, Xc3, Xcf⟩ := four X_2
  obtain ⟨Yc0, Yc1, Yc2, Yc3, Ycf⟩ := four Y_2
  have Xl2 : w.heap.size < w2.heap.size := by omega
  have Yl2 : w.heap.size + 1 < w2.heap.size := by omega
  go_wp2_with fail
  refine (HRA.out _).mono ?_
  rintro e w3 ⟨rfl, hb3⟩
  have hs3 := hb3.size
  try simp only [World.size_alloc] at hs3
  have X_3 : w3.heap[w.heap.size]? = some (.cells #[.int .i64 a, .int .i64 b, .int .i64 c, .int .i64 d] 25 (0, 0)) := below_at hb3 (by first | omega | (simp; done) | (simp; omega)) (by (repeat (first | (with_reducible assumption) | (with_reducible exact alloc_at _ _) | ((with_reducible apply alloc_at'); (simp; done)) | (with_reducible apply alloc_at_lt) | (with_reducible apply heap_drew_at) | (with_reducible apply heap_drewN_at) | (with_reducible apply heap_setCell_same) | ((with_reducible apply heap_set_ne); (first | omega | (simp; done) | (simp; omega))))))
  have Y_3 : w3.heap[w.heap.size + 1]? = some (.cells #[.int .i64 a', .int .i64 b', .int .i64 c', .int .i64 d'] 25 (0, 0)) := below_at hb3 (by first | omega | (simp; done) | (simp; omega)) (by (repeat (first | (with_reducible assumption) | (with_reducible exact alloc_at _ _) | ((with_reducible apply alloc_at'); (simp; done)) | (with_reducible apply alloc_at_lt) | (with_reducible apply heap_drew_at) | (with_reducible apply heap_drewN_at) | (with_reducible apply heap_setCell_same) | ((with_reducible apply heap_set_ne); (first | omega | (simp; done) | (simp; omega))))))
  have R2x_3 : w3.heap[w2.heap.size]? = some (.cells #[.int .i64 r0, .int .i64 r1, .int .i64 r2, .int .i64 r3] 25 (0, 0)) := below_at hb3 (by first | omega | (simp; done) | (simp; omega)) (by (repeat (first | (with_reducible assumption) | (with_reducible exact alloc_at _ _) | ((with_reducible apply alloc_at'); (simp; done)) | (with_reducible apply alloc_at_lt) | (with_reducible apply heap_drew_at) | (with_reducible apply heap_drewN_at) | (with_reducible apply heap_setCell_same) | ((with_reducible apply heap_set_ne); (first | omega | (simp; done) | (simp; omega))))))
  have B3 : Below w.heap.size w w3 := Below.trans (by repeat (first | with_reducible assumption | with_reducible exact Below.refl _ _ | with_reducible refine Below.drew ?_ | with_reducible refine below_drewN ?_ _ | with_reducible refine below_alloc ?_ _ | with_reducible refine Below.alloc ?_ (by first | omega | (simp; done) | (simp; omega)) _ | with_reducible refine Below.setCell ?_ (by first | omega | (simp; done) | (simp; omega)) _)) (hb3.mono (by first | omega | (simp; done) | (simp; omega)))
  clear hb3 X_2 Y_2
  try clear Xc0 Xc1 Xc2 Xc3 Xcf
  try clear Yc0 Yc1 Yc2 Yc3 Ycf
  try clear R2xc0 R2xc1 R2xc2 R2xc3 R2xcf
  obtain ⟨Xc0, Xc1, Xc2, Xc3, Xcf⟩ := four X_3
  obtain ⟨Yc0, Yc1, Yc2, Yc3, Ycf⟩ := four Y_3
  obtain ⟨R2xc0, R2xc1, R2xc2, R2xc3, R2xcf⟩ := four R2x_3
  have Xl3 : w.heap.size < w3.heap.size := by omega
  have Yl3 : w.heap.size + 1 < w3.heap.size := by omega
  have R2xl3 : w2.heap.size < w3.heap.size := by omega
  go_wp2_with fail
  refine (HS.out _).mono ?_
  rintro e w4 ⟨rfl, hb4⟩
  have hs4 := hb4.size
  try simp only [World.size_alloc] at hs4
  have X_4 : w4.heap[w.heap.size]? = some (.cells #[.int .i64 a, .int .i64 b, .int .i64 c, .int .i64 d] 25 (0, 0)) := below_at hb4 (by first | omega | (simp; done) | (simp; omega)) (by (repeat (first | (with_reducible assumption) | (with_reducible exact alloc_at _ _) | ((with_reducible apply alloc_at'); (simp; done)) | (with_reducible apply alloc_at_lt) | (with_reducible apply heap_drew_at) | (with_reducible apply heap_drewN_at) | (with_reducible apply heap_setCell_same) | ((with_reducible apply heap_set_ne); (first | omega | (simp; done) | (simp; omega))))))
  have Y_4 : w4.heap[w.heap.size + 1]? = some (.cells #[.int .i64 a', .int .i64 b', .int .i64 c', .int .i64 d'] 25 (0, 0)) := below_at hb4 (by first | omega | (simp; done) | (simp; omega)) (by (repeat (first | (with_reducible assumption) | (with_reducible exact alloc_at _ _) | ((with_reducible apply alloc_at'); (simp; done)) | (with_reducible apply alloc_at_lt) | (with_reducible apply heap_drew_at) | (with_reducible apply heap_drewN_at) | (with_reducible apply heap_setCell_same) | ((with_reducible apply heap_set_ne); (first | omega | (simp; done) | (simp; omega))))))
  have R2x_4 : w4.heap[w2.heap.size]? = some (.cells #[.int .i64 r0, .int .i64 r1, .int .i64 r2, .int .i64 r3] 25 (0, 0)) := below_at hb4 (by first | omega | (simp; done) | (simp; omega)) (by (repeat (first | (with_reducible assumption) | (with_reducible exact alloc_at _ _) | ((with_reducible apply alloc_at'); (simp; done)) | (with_reducible apply alloc_at_lt) | (with_reducible apply heap_drew_at) | (with_reducible apply heap_drewN_at) | (with_reducible apply heap_setCell_same) | ((with_reducible apply heap_set_ne); (first | omega | (simp; done) | (simp; omega))))))
  have R3x_4 : w4.heap[w3.heap.size]? = some (.cells #[.int .i64 r0, .int .i64 r1, .int .i64 r2, .int .i64 r3] 25 (0, 0)) := below_at hb4 (by first | omega | (simp; done) | (simp; omega)) (by (repeat (first | (with_reducible assumption) | (with_reducible exact alloc_at _ _) | ((with_reducible apply alloc_at'); (simp; done)) | (with_reducible apply alloc_at_lt) | (with_reducible apply heap_drew_at) | (with_reducible apply heap_drewN_at) | (with_reducible apply heap_setCell_same) | ((with_reducible apply heap_set_ne); (first | omega | (simp; done) | (simp; omega))))))
  have B4 : Below w.heap.size w w4 := Below.trans (by repeat (first | with_reducible assumption | with_reducible exact Below.refl _ _ | with_reducible refine Below.drew ?_ | with_reducible refine below_drewN ?_ _ | with_reducible refine below_alloc ?_ _ | with_reducible refine Below.alloc ?_ (by first | omega | (simp; done) | (simp; omega)) _ | with_reducible refine Below.setCell ?_ (by first | omega | (simp; done) | (simp; omega)) _)) (hb4.mono (by first | omega | (simp; done) | (simp; omega)))
  clear hb4 X_3 Y_3 R2x_3
  try clear Xc0 Xc1 Xc2 Xc3 Xcf
  try clear Yc0 Yc1 Yc2 Yc3 Ycf
  try clear R2xc0 R2xc1 R2xc2 R2xc3 R2xcf
  try clear R3xc0 R3xc1 R3xc2 R3xc3 R3xcf
  obtain ⟨Xc0, Xc1, Xc2, Xc3, Xcf⟩ := four X_4
  obtain ⟨Yc0, Yc1, Yc2, Yc3, Ycf⟩ := four Y_4
  obtain ⟨R2xc0, R2xc1, R2xc2, R2xc3, R2xcf⟩ := four R2x_4
  obtain ⟨R3xc0, R3xc1, R3xc2, R3xc3, R3xcf⟩ := four R3x_4
  have Xl4 : w.heap.size < w4.heap.size := by omega
  have Yl4 : w.heap.size + 1 < w4.heap.size := by omega
  have R2xl4 : w2.heap.size < w4.heap.size := by omega
  have R3xl4 : w3.heap.size < w4.heap.size := by omega
  go_wp2_with fail
  refine (HRS.out _).mono ?_
  rintro e w5 ⟨rfl, hb5⟩
  have hs5 := hb5.size
  try simp only [World.size_alloc] at hs5
  have X_5 : w5.heap[w.heap.size]? = some (.cells #[.int .i64 a, .int .i64 b, .int .i64 c, .int .i64 d] 25 (0, 0)) := below_at hb5 (by first | omega | (simp; done) | (simp; omega)) (by (repeat (first | (with_reducible assumption) | (with_reducible exact alloc_at _ _) | ((with_reducible apply alloc_at'); (simp; done)) | (with_reducible apply alloc_at_lt) | (with_reducible apply heap_drew_at) | (with_reducible apply heap_drewN_at) | (with_reducible apply heap_setCell_same) | ((with_reducible apply heap_set_ne); (first | omega | (simp; done) | (simp; omega))))))
  have Y_5 : w5.heap[w.heap.size + 1]? = some (.cells #[.int .i64 a', .int .i64 b', .int .i64 c', .int .i64 d'] 25 (0, 0)) := below_at hb5 (by first | omega | (simp; done) | (simp; omega)) (by (repeat (first | (with_reducible assumption) | (with_reducible exact alloc_at _ _) | ((with_reducible apply alloc_at'); (simp; done)) | (with_reducible apply alloc_at_lt) | (with_reducible apply heap_drew_at) | (with_reducible apply heap_drewN_at) | (with_reducible apply heap_setCell_same) | ((with_reducible apply heap_set_ne); (first | omega | (simp; done) | (simp; omega))))))
  have R2x_5 : w5.heap[w2.heap.size]? = some (.cells #[.int .i64 r0, .int .i64 r1, .int .i64 r2, .int .i64 r3] 25 (0, 0)) := below_at hb5 (by first | omega | (simp; done) | (simp; omega)) (by (repeat (first | (with_reducible assumption) | (with_reducible exact alloc_at _ _) | ((with_reducible apply alloc_at'); (simp; done)) | (with_reducible apply alloc_at_lt) | (with_reducible apply heap_drew_at) | (with_reducible apply heap_drewN_at) | (with_reducible apply heap_setCell_same) | ((with_reducible apply heap_set_ne); (first | omega | (simp; done) | (simp; omega))))))
  have R3x_5 : w5.heap[w3.heap.size]? = some (.cells #[.int .i64 r0, .int .i64 r1, .int .i64 r2, .int .i64 r3] 25 (0, 0)) := below_at hb5 (by first | omega | (simp; done) | (simp; omega)) (by (repeat (first | (with_reducible assumption) | (with_reducible exact alloc_at _ _) | ((with_reducible apply alloc_at'); (simp; done)) | (with_reducible apply alloc_at_lt) | (with_reducible apply heap_drew_at) | (with_reducible apply heap_drewN_at) | (with_reducible apply heap_setCell_same) | ((with_reducible apply heap_set_ne); (first | omega | (simp; done) | (simp; omega))))))
  have R4x_5 : w5.heap[w4.heap.size]? = some (.cells #[.int .i64 q0, .int .i64 q1, .int .i64 q2, .int .i64 q3] 25 (0, 0)) := below_at hb5 (by first | omega | (simp; done) | (simp; omega)) (by (repeat (first | (with_reducible assumption) | (with_reducible exact alloc_at _ _) | ((with_reducible apply alloc_at'); (simp; done)) | (with_reducible apply alloc_at_lt) | (with_reducible apply heap_drew_at) | (with_reducible apply heap_drewN_at) | (with_reducible apply heap_setCell_same) | ((with_reducible apply heap_set_ne); (first | omega | (simp; done) | (simp; omega))))))
  have B5 : Below w.heap.size w w5 := Below.trans (by repeat (first | with_reducible assumption | with_reducible exact Below.refl _ _ | with_reducible refine Below.drew ?_ | with_reducible refine below_drewN ?_ _ | with_reducible refine below_alloc ?_ _ | with_reducible refine Below.alloc ?_ (by first | omega | (simp; done) | (simp; omega)) _ | with_reducible refine Below.setCell ?_ (by first | omega | (simp; done) | (simp; omega)) _)) (hb5.mono (by first | omega | (simp; done) | (simp; omega)))
  clear hb5 X_4 Y_4 R2x_4 R3x_4
  try clear Xc0 Xc1 Xc2 Xc3 Xcf
  try clear Yc0 Yc1 Yc2 Yc3 Ycf
  try clear R2xc0 R2xc1 R2xc2 R2xc3 R2xcf
  try clear R3xc0 R3xc1 R3xc2 R3xc3 R3xcf
  try clear R4xc0 R4xc1 R4xc2 R4xc3 R4xcf
  obtain ⟨Xc0, Xc1, Xc2, Xc3, Xcf⟩ := four X_5
  obtain ⟨Yc0, Yc1, Yc2, Yc3, Ycf⟩ := four Y_5
  obtain ⟨R2xc0, R2xc1, R2xc2, R2xc3, R2xcf⟩ := four R2x_5
  obtain ⟨R3xc0, R3xc1, R3xc2, R3xc3, R3xcf⟩ := four R3x_5
  obtain ⟨R4xc0, R4xc1, R4xc2, R4xc3, R4xcf⟩ := four R4x_5
  have Xl5 : w.heap.size < w5.heap.size := by omega
  have Yl5 : w.heap.size + 1 < w5.heap.size := by omega
  have R2xl5 : w2.heap.size < w5.heap.size := by omega
  have R3xl5 : w3.heap.size < w5.heap.size := by omega
  have R4xl5 : w4.heap.size < w5.heap.size := by omega
  go_wp2
  go_ret
  exact ⟨by first | rfl | simp, (by repeat (first | with_reducible assumption | with_reducible exact Below.refl _ _ | with_reducible refine Below.drew ?_ | with_reducible refine below_drewN ?_ _ | with_reducible refine below_alloc ?_ _ | with_reducible refine Below.alloc ?_ (by first | omega | (simp; done) | (simp; omega)) _ | with_reducible refine Below.setCell ?_ (by first | omega | (simp; done) | (simp; omega)) _))⟩
end Go.Proofs.Ytcfjhmglifpdlaa
