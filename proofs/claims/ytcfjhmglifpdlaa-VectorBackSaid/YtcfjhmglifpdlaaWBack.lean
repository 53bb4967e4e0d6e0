/- The walk of VectorBack: what was added can be taken away, a sum holds both its parts, its order doesn't matter. No condition. -/
import Derived.Test.YtcfjhmglifpdlaaVec6
namespace Go.Proofs.Ytcfjhmglifpdlaa
open Go.RowKit
theorem addR_comm (x y : V) : addR x y = addR y x := by
  have e : addV x y = addV y x := by
    obtain ⟨a, b, c, d⟩ := x
    obtain ⟨a', b', c', d'⟩ := y
    simp only [addV, Prod.mk.injEq]; omega
  unfold addR
  rw [e, Bool.and_comm]
theorem sub_add (a b c d a' b' c' d' : Int) (hx : formedB a b c d = true) (hy : formedB a' b' c' d' = true) (ho : formedB (a + a') (b + b') (c + c') (d + d') = true) :
    subR (a + a', b + b', c + c', d + d') (a', b', c', d') = ((a, b, c, d), 0) := by
  have h1 := (okV_iff (a, b, c, d)).1 hx
  rw [subR_ok (x := (a + a', b + b', c + c', d + d')) (y := (a', b', c', d')) ho hy (by rw [fitsV_iff]; simp only at h1 ⊢; omega)]
  simp only [subV, Prod.mk.injEq, and_true]; omega
theorem fits_l (a b c d a' b' c' d' : Int) (hy : formedB a' b' c' d' = true) : fitsB a b c d (a + a') (b + b') (c + c') (d + d') = true := by
  have h1 := (okV_iff (a', b', c', d')).1 hy
  simp only at h1
  unfold fitsB; simp; omega
theorem fits_r (a b c d a' b' c' d' : Int) (hx : formedB a b c d = true) : fitsB a' b' c' d' (a + a') (b + b') (c + c') (d + d') = true := by
  have h1 := (okV_iff (a, b, c, d)).1 hx
  simp only at h1
  unfold fitsB; simp; omega
set_option maxHeartbeats 2000000 in
theorem back_form1 (a b c d a' b' c' d' : Int) (w : World) (hx : formedB a b c d = false) : Calls Try.prog 5 #[.agg #[.int .i64 a, .int .i64 b, .int .i64 c, .int .i64 d], .agg #[.int .i64 a', .int .i64 b', .int .i64 c', .int .i64 d']] w fun e w' => e = .returned (.bool true) ∧ Below w.heap.size w w' := by
  have ha : ∀ W, Calls Try.prog 12 #[.agg #[.int .i64 a, .int .i64 b, .int .i64 c, .int .i64 d], .agg #[.int .i64 a', .int .i64 b', .int .i64 c', .int .i64 d']] W fun e w' => e = .returned (.tuple #[.agg #[.int .i64 0, .int .i64 0, .int .i64 0, .int .i64 0], .int .i64 4]) ∧ Below W.heap.size W w' := fun W => by
    have h := by have h := add_any a b c d a' b' c' d' W; rw [addR_form (by simp [okV, hx])] at h; exact h
    exact h
  have HA := hid ha
  clear ha
  have hb : ∀ W, Calls Try.prog 12 #[.agg #[.int .i64 a', .int .i64 b', .int .i64 c', .int .i64 d'], .agg #[.int .i64 a, .int .i64 b, .int .i64 c, .int .i64 d]] W fun e w' => e = .returned (.tuple #[.agg #[.int .i64 0, .int .i64 0, .int .i64 0, .int .i64 0], .int .i64 4]) ∧ Below W.heap.size W w' := fun W => by
    have h := by have h := add_any a' b' c' d' a b c d W; rw [addR_comm, addR_form (by simp [okV, hx])] at h; exact h
    exact h
  have HB := hid hb
  clear hb
  have hf : ∀ W, Calls Try.prog 16 #[.agg #[.int .i64 a, .int .i64 b, .int .i64 c, .int .i64 d]] W fun e w' => e = .returned (.bool false) ∧ Below W.heap.size W w' := fun W => by
    have h := by have h := formed_any a b c d W; rw [hx] at h; exact h
    exact h
  have HF := hid hf
  clear hf
  clear hx
  go_enter Try.func5, Try.ntmps5
  go_wp2_with fail
  refine (awake_any _).mono ?_
  rintro e w1 ⟨rfl, hb1⟩
  have hs1 := hb1.size
  try simp only [World.size_alloc] at hs1
  have X_1 : w1.heap[w.heap.size]? = some (.cells #[.int .i64 a, .int .i64 b, .int .i64 c, .int .i64 d] 25 (0, 0)) := below_at hb1 (by first | omega | (simp; done) | (simp; omega)) (by (repeat (first | (with_reducible assumption) | (with_reducible exact alloc_at _ _) | ((with_reducible apply alloc_at'); (simp; done)) | (with_reducible apply alloc_at_lt) | (with_reducible apply heap_drew_at) | (with_reducible apply heap_drewN_at) | (with_reducible apply heap_setCell_same) | ((with_reducible apply heap_set_ne); (first | omega | (simp; done) | (simp; omega))))))
  have Y_1 : w1.heap[w.heap.size + 1]? = some (.cells #[.int .i64 a', .int .i64 b', .int .i64 c', .int .i64 d'] 25 (0, 0)) := below_at hb1 (by first | omega | (simp; done) | (simp; omega)) (by (repeat (first | (with_reducible assumption) | (with_reducible exact alloc_at _ _) | ((with_reducible apply alloc_at'); (simp; done)) | (with_reducible apply alloc_at_lt) | (with_reducible apply heap_drew_at) | (with_reducible apply heap_drewN_at) | (with_reducible apply heap_setCell_same) | ((with_reducible apply heap_set_ne); (first | omega | (simp; done) | (simp; omega))))))
  have B1 : Below w.heap.size w w1 := Below.trans (by repeat (first | with_reducible assumption | with_reducible exact Below.refl _ _ | with_reducible refine Below.drew ?_ | with_reducible refine below_drewN ?_ _ | with_reducible refine below_alloc ?_ _ | with_reducible refine Below.alloc ?_ (by first | omega | (simp; done) | (simp; omega)) _ | with_reducible refine Below.setCell ?_ (by first | omega | (simp; done) | (simp; omega)) _)) (hb1.mono (by first | omega | (simp; done) | (simp; omega)))
  clear hb1
  try clear Xc0 Xc1 Xc2 Xc3 Xcf
  try clear Yc0 Yc1 Yc2 Yc3 Ycf
  obtain ⟨Xc0, Xc1, Xc2, Xc3, Xcf⟩ := four X_1
  obtain ⟨Yc0, Yc1, Yc2, Yc3, Ycf⟩ := four Y_1
  have Xl1 : w.heap.size < w1.heap.size := by omega
  have Yl1 : w.heap.size + 1 < w1.heap.size := by omega
  go_wp2_with fail
  refine (HA.out _).mono ?_
  rintro e w2 ⟨rfl, hb2⟩
  have hs2 := hb2.size
  try simp only [World.size_alloc] at hs2
  have X_2 : w2.heap[w.heap.size]? = some (.cells #[.int .i64 a, .int .i64 b, .int .i64 c, .int .i64 d] 25 (0, 0)) := below_at hb2 (by first | omega | (simp; done) | (simp; omega)) (by (repeat (first | (with_reducible assumption) | (with_reducible exact alloc_at _ _) | ((with_reducible apply alloc_at'); (simp; done)) | (with_reducible apply alloc_at_lt) | (with_reducible apply heap_drew_at) | (with_reducible apply heap_drewN_at) | (with_reducible apply heap_setCell_same) | ((with_reducible apply heap_set_ne); (first | omega | (simp; done) | (simp; omega))))))
  have Y_2 : w2.heap[w.heap.size + 1]? = some (.cells #[.int .i64 a', .int .i64 b', .int .i64 c', .int .i64 d'] 25 (0, 0)) := below_at hb2 (by first | omega | (simp; done) | (simp; omega)) (by (repeat (first | (with_reducible assumption) | (with_reducible exact alloc_at _ _) | ((with_reducible apply alloc_at'); (simp; done)) | (with_reducible apply alloc_at_lt) | (with_reducible apply heap_drew_at) | (with_reducible apply heap_drewN_at) | (with_reducible apply heap_setCell_same) | ((with_reducible apply heap_set_ne); (first | omega | (simp; done) | (simp; omega))))))
  have B2 : Below w.heap.size w w2 := Below.trans (by repeat (first | with_reducible assumption | with_reducible exact Below.refl _ _ | with_reducible refine Below.drew ?_ | with_reducible refine below_drewN ?_ _ | with_reducible refine below_alloc ?_ _ | with_reducible refine Below.alloc ?_ (by first | omega | (simp; done) | (simp; omega)) _ | with_reducible refine Below.setCell ?_ (by first | omega | (simp; done) | (simp; omega)) _)) (hb2.mono (by first | omega | (simp; done) | (simp; omega)))
  clear hb2 X_1 Y_1
  try clear Xc0 Xc1 Xc2 Xc3 Xcf
  try clear Yc0 Yc1 Yc2 Yc3 Ycf
  obtain ⟨Xc0, Xc1, Xc2, Xc3, Xcf⟩ := four X_2
  obtain ⟨Yc0, Yc1, Yc2, Yc3, Ycf⟩ := four Y_2
  have Xl2 : w.heap.size < w2.heap.size := by omega
  have Yl2 : w.heap.size + 1 < w2.heap.size := by omega
  go_wp2_with fail
  refine (HB.out _).mono ?_
  rintro e w3 ⟨rfl, hb3⟩
  have hs3 := hb3.size
  try simp only [World.size_alloc] at hs3
  have X_3 : w3.heap[w.heap.size]? = some (.cells #[.int .i64 a, .int .i64 b, .int .i64 c, .int .i64 d] 25 (0, 0)) := below_at hb3 (by first | omega | (simp; done) | (simp; omega)) (by (repeat (first | (with_reducible assumption) | (with_reducible exact alloc_at _ _) | ((with_reducible apply alloc_at'); (simp; done)) | (with_reducible apply alloc_at_lt) | (with_reducible apply heap_drew_at) | (with_reducible apply heap_drewN_at) | (with_reducible apply heap_setCell_same) | ((with_reducible apply heap_set_ne); (first | omega | (simp; done) | (simp; omega))))))
  have Y_3 : w3.heap[w.heap.size + 1]? = some (.cells #[.int .i64 a', .int .i64 b', .int .i64 c', .int .i64 d'] 25 (0, 0)) := below_at hb3 (by first | omega | (simp; done) | (simp; omega)) (by (repeat (first | (with_reducible assumption) | (with_reducible exact alloc_at _ _) | ((with_reducible apply alloc_at'); (simp; done)) | (with_reducible apply alloc_at_lt) | (with_reducible apply heap_drew_at) | (with_reducible apply heap_drewN_at) | (with_reducible apply heap_setCell_same) | ((with_reducible apply heap_set_ne); (first | omega | (simp; done) | (simp; omega))))))
  have R2x_3 : w3.heap[w2.heap.size]? = some (.cells #[.int .i64 0, .int .i64 0, .int .i64 0, .int .i64 0] 25 (0, 0)) := below_at hb3 (by first | omega | (simp; done) | (simp; omega)) (by (repeat (first | (with_reducible assumption) | (with_reducible exact alloc_at _ _) | ((with_reducible apply alloc_at'); (simp; done)) | (with_reducible apply alloc_at_lt) | (with_reducible apply heap_drew_at) | (with_reducible apply heap_drewN_at) | (with_reducible apply heap_setCell_same) | ((with_reducible apply heap_set_ne); (first | omega | (simp; done) | (simp; omega))))))
  have B3 : Below w.heap.size w w3 := Below.trans (by repeat (first | with_reducible assumption | with_reducible exact Below.refl _ _ | with_reducible refine Below.drew ?_ | with_reducible refine below_drewN ?_ _ | with_reducible refine below_alloc ?_ _ | with_reducible refine Below.alloc ?_ (by first | omega | (simp; done) | (simp; omega)) _ | with_reducible refine Below.setCell ?_ (by first | omega | (simp; done) | (simp; omega)) _)) (hb3.mono (by first | omega | (simp; done) | (simp; omega)))
  clear hb3 X_2 Y_2
  try clear Xc0 Xc1 Xc2 Xc3 Xcf
  try clear Yc0 Yc1 Yc2 Yc3 Ycf
  try clear R2xc0 R2xc1 R2xc2 R2xc3 R2xcf
  obtain ⟨Xc0, Xc1, Xc2, Xc3, Xcf⟩ := four X_3
  obtain ⟨Yc0, Yc1, Yc2, Yc3, Ycf⟩ := four Y_3
  obtain ⟨R2xc0, R2xc1, R2xc2, R2xc3, R2xcf⟩ := four R2x_3
  have Xl3 : w.heap.size < w3.heap.size := by omega
  have Yl3 : w.heap.size + 1 < w3.heap.size := by omega
  have R2xl3 : w2.heap.size < w3.heap.size := by omega
  go_wp2_with fail
  refine (HF.out _).mono ?_
  rintro e w4 ⟨rfl, hb4⟩
  have hs4 := hb4.size
  try simp only [World.size_alloc] at hs4
  have X_4 : w4.heap[w.heap.size]? = some (.cells #[.int .i64 a, .int .i64 b, .int .i64 c, .int .i64 d] 25 (0, 0)) := below_at hb4 (by first | omega | (simp; done) | (simp; omega)) (by (repeat (first | (with_reducible assumption) | (with_reducible exact alloc_at _ _) | ((with_reducible apply alloc_at'); (simp; done)) | (with_reducible apply alloc_at_lt) | (with_reducible apply heap_drew_at) | (with_reducible apply heap_drewN_at) | (with_reducible apply heap_setCell_same) | ((with_reducible apply heap_set_ne); (first | omega | (simp; done) | (simp; omega))))))
  have Y_4 : w4.heap[w.heap.size + 1]? = some (.cells #[.int .i64 a', .int .i64 b', .int .i64 c', .int .i64 d'] 25 (0, 0)) := below_at hb4 (by first | omega | (simp; done) | (simp; omega)) (by (repeat (first | (with_reducible assumption) | (with_reducible exact alloc_at _ _) | ((with_reducible apply alloc_at'); (simp; done)) | (with_reducible apply alloc_at_lt) | (with_reducible apply heap_drew_at) | (with_reducible apply heap_drewN_at) | (with_reducible apply heap_setCell_same) | ((with_reducible apply heap_set_ne); (first | omega | (simp; done) | (simp; omega))))))
  have R2x_4 : w4.heap[w2.heap.size]? = some (.cells #[.int .i64 0, .int .i64 0, .int .i64 0, .int .i64 0] 25 (0, 0)) := below_at hb4 (by first | omega | (simp; done) | (simp; omega)) (by (repeat (first | (with_reducible assumption) | (with_reducible exact alloc_at _ _) | ((with_reducible apply alloc_at'); (simp; done)) | (with_reducible apply alloc_at_lt) | (with_reducible apply heap_drew_at) | (with_reducible apply heap_drewN_at) | (with_reducible apply heap_setCell_same) | ((with_reducible apply heap_set_ne); (first | omega | (simp; done) | (simp; omega))))))
  have R3x_4 : w4.heap[w3.heap.size]? = some (.cells #[.int .i64 0, .int .i64 0, .int .i64 0, .int .i64 0] 25 (0, 0)) := below_at hb4 (by first | omega | (simp; done) | (simp; omega)) (by (repeat (first | (with_reducible assumption) | (with_reducible exact alloc_at _ _) | ((with_reducible apply alloc_at'); (simp; done)) | (with_reducible apply alloc_at_lt) | (with_reducible apply heap_drew_at) | (with_reducible apply heap_drewN_at) | (with_reducible apply heap_setCell_same) | ((with_reducible apply heap_set_ne); (first | omega | (simp; done) | (simp; omega))))))
  have B4 : Below w.heap.size w w4 := Below.trans (by repeat (first | with_reducible assumption | with_reducible exact Below.refl _ _ | with_reducible refine Below.drew ?_ | with_reducible refine below_drewN ?_ _ | with_reducible refine below_alloc ?_ _ | with_reducible refine Below.alloc ?_ (by first | omega | (simp; done) | (simp; omega)) _ | with_reducible refine Below.setCell ?_ (by first | omega | (simp; done) | (simp; omega)) _)) (hb4.mono (by first | omega | (simp; done) | (simp; omega)))
  clear hb4 X_3 Y_3 R2x_3
  try clear Xc0 Xc1 Xc2 Xc3 Xcf
  try clear Yc0 Yc1 Yc2 Yc3 Ycf
  try clear R2xc0 R2xc1 R2xc2 R2xc3 R2xcf
  try clear R3xc0 R3xc1 R3xc2 R3xc3 R3xcf
  obtain ⟨Xc0, Xc1, Xc2, Xc3, Xcf⟩ := four X_4
  obtain ⟨Yc0, Yc1, Yc2, Yc3, Ycf⟩ := four Y_4
  obtain ⟨R2xc0, R2xc1, R2xc2, R2xc3, R2xcf⟩ := four R2x_4
  obtain ⟨R3xc0, R3xc1, R3xc2, R3xc3, R3xcf⟩ := four R3x_4
  have Xl4 : w.heap.size < w4.heap.size := by omega
  have Yl4 : w.heap.size + 1 < w4.heap.size := by omega
  have R2xl4 : w2.heap.size < w4.heap.size := by omega
  have R3xl4 : w3.heap.size < w4.heap.size := by omega
  go_wp2
  go_ret
  exact ⟨by first | rfl | simp, (by repeat (first | with_reducible assumption | with_reducible exact Below.refl _ _ | with_reducible refine Below.drew ?_ | with_reducible refine below_drewN ?_ _ | with_reducible refine below_alloc ?_ _ | with_reducible refine Below.alloc ?_ (by first | omega | (simp; done) | (simp; omega)) _ | with_reducible refine Below.setCell ?_ (by first | omega | (simp; done) | (simp; omega)) _))⟩
set_option maxHeartbeats 2000000 in
theorem back_form2 (a b c d a' b' c' d' : Int) (w : World) (hx : formedB a b c d = true) (hy : formedB a' b' c' d' = false) : Calls Try.prog 5 #[.agg #[.int .i64 a, .int .i64 b, .int .i64 c, .int .i64 d], .agg #[.int .i64 a', .int .i64 b', .int .i64 c', .int .i64 d']] w fun e w' => e = .returned (.bool true) ∧ Below w.heap.size w w' := by
  have ha : ∀ W, Calls Try.prog 12 #[.agg #[.int .i64 a, .int .i64 b, .int .i64 c, .int .i64 d], .agg #[.int .i64 a', .int .i64 b', .int .i64 c', .int .i64 d']] W fun e w' => e = .returned (.tuple #[.agg #[.int .i64 0, .int .i64 0, .int .i64 0, .int .i64 0], .int .i64 4]) ∧ Below W.heap.size W w' := fun W => by
    have h := by have h := add_any a b c d a' b' c' d' W; rw [addR_form (by simp [okV, hy])] at h; exact h
    exact h
  have HA := hid ha
  clear ha
  have hb : ∀ W, Calls Try.prog 12 #[.agg #[.int .i64 a', .int .i64 b', .int .i64 c', .int .i64 d'], .agg #[.int .i64 a, .int .i64 b, .int .i64 c, .int .i64 d]] W fun e w' => e = .returned (.tuple #[.agg #[.int .i64 0, .int .i64 0, .int .i64 0, .int .i64 0], .int .i64 4]) ∧ Below W.heap.size W w' := fun W => by
    have h := by have h := add_any a' b' c' d' a b c d W; rw [addR_comm, addR_form (by simp [okV, hy])] at h; exact h
    exact h
  have HB := hid hb
  clear hb
  have hf : ∀ W, Calls Try.prog 16 #[.agg #[.int .i64 a, .int .i64 b, .int .i64 c, .int .i64 d]] W fun e w' => e = .returned (.bool true) ∧ Below W.heap.size W w' := fun W => by
    have h := by have h := formed_any a b c d W; rw [hx] at h; exact h
    exact h
  have HF := hid hf
  clear hf
  have hg : ∀ W, Calls Try.prog 16 #[.agg #[.int .i64 a', .int .i64 b', .int .i64 c', .int .i64 d']] W fun e w' => e = .returned (.bool false) ∧ Below W.heap.size W w' := fun W => by
    have h := by have h := formed_any a' b' c' d' W; rw [hy] at h; exact h
    exact h
  have HG := hid hg
  clear hg
  clear hx hy
  go_enter Try.func5, Try.ntmps5
  go_wp2_with fail
  refine (awake_any _).mono ?_
  rintro e w1 ⟨rfl, hb1⟩
  have hs1 := hb1.size
  try simp only [World.size_alloc] at hs1
  have X_1 : w1.heap[w.heap.size]? = some (.cells #[.int .i64 a, .int .i64 b, .int .i64 c, .int .i64 d] 25 (0, 0)) := below_at hb1 (by first | omega | (simp; done) | (simp; omega)) (by (repeat (first | (with_reducible assumption) | (with_reducible exact alloc_at _ _) | ((with_reducible apply alloc_at'); (simp; done)) | (with_reducible apply alloc_at_lt) | (with_reducible apply heap_drew_at) | (with_reducible apply heap_drewN_at) | (with_reducible apply heap_setCell_same) | ((with_reducible apply heap_set_ne); (first | omega | (simp; done) | (simp; omega))))))
  have Y_1 : w1.heap[w.heap.size + 1]? = some (.cells #[.int .i64 a', .int .i64 b', .int .i64 c', .int .i64 d'] 25 (0, 0)) := below_at hb1 (by first | omega | (simp; done) | (simp; omega)) (by (repeat (first | (with_reducible assumption) | (with_reducible exact alloc_at _ _) | ((with_reducible apply alloc_at'); (simp; done)) | (with_reducible apply alloc_at_lt) | (with_reducible apply heap_drew_at) | (with_reducible apply heap_drewN_at) | (with_reducible apply heap_setCell_same) | ((with_reducible apply heap_set_ne); (first | omega | (simp; done) | (simp; omega))))))
  have B1 : Below w.heap.size w w1 := Below.trans (by repeat (first | with_reducible assumption | with_reducible exact Below.refl _ _ | with_reducible refine Below.drew ?_ | with_reducible refine below_drewN ?_ _ | with_reducible refine below_alloc ?_ _ | with_reducible refine Below.alloc ?_ (by first | omega | (simp; done) | (simp; omega)) _ | with_reducible refine Below.setCell ?_ (by first | omega | (simp; done) | (simp; omega)) _)) (hb1.mono (by first | omega | (simp; done) | (simp; omega)))
  clear hb1
  try clear Xc0 Xc1 Xc2 Xc3 Xcf
  try clear Yc0 Yc1 Yc2 Yc3 Ycf
  obtain ⟨Xc0, Xc1, Xc2, Xc3, Xcf⟩ := four X_1
  obtain ⟨Yc0, Yc1, Yc2, Yc3, Ycf⟩ := four Y_1
  have Xl1 : w.heap.size < w1.heap.size := by omega
  have Yl1 : w.heap.size + 1 < w1.heap.size := by omega
  go_wp2_with fail
  refine (HA.out _).mono ?_
  rintro e w2 ⟨rfl, hb2⟩
  have hs2 := hb2.size
  try simp only [World.size_alloc] at hs2
  have X_2 : w2.heap[w.heap.size]? = some (.cells #[.int .i64 a, .int .i64 b, .int .i64 c, .int .i64 d] 25 (0, 0)) := below_at hb2 (by first | omega | (simp; done) | (simp; omega)) (by (repeat (first | (with_reducible assumption) | (with_reducible exact alloc_at _ _) | ((with_reducible apply alloc_at'); (simp; done)) | (with_reducible apply alloc_at_lt) | (with_reducible apply heap_drew_at) | (with_reducible apply heap_drewN_at) | (with_reducible apply heap_setCell_same) | ((with_reducible apply heap_set_ne); (first | omega | (simp; done) | (simp; omega))))))
  have Y_2 : w2.heap[w.heap.size + 1]? = some (.cells #[.int .i64 a', .int .i64 b', .int .i64 c', .int .i64 d'] 25 (0, 0)) := below_at hb2 (by first | omega | (simp; done) | (simp; omega)) (by (repeat (first | (with_reducible assumption) | (with_reducible exact alloc_at _ _) | ((with_reducible apply alloc_at'); (simp; done)) | (with_reducible apply alloc_at_lt) | (with_reducible apply heap_drew_at) | (with_reducible apply heap_drewN_at) | (with_reducible apply heap_setCell_same) | ((with_reducible apply heap_set_ne); (first | omega | (simp; done) | (simp; omega))))))
  have B2 : Below w.heap.size w w2 := Below.trans (by repeat (first | with_reducible assumption | with_reducible exact Below.refl _ _ | with_reducible refine Below.drew ?_ | with_reducible refine below_drewN ?_ _ | with_reducible refine below_alloc ?_ _ | with_reducible refine Below.alloc ?_ (by first | omega | (simp; done) | (simp; omega)) _ | with_reducible refine Below.setCell ?_ (by first | omega | (simp; done) | (simp; omega)) _)) (hb2.mono (by first | omega | (simp; done) | (simp; omega)))
  clear hb2 X_1 Y_1
  try clear Xc0 Xc1 Xc2 Xc3 Xcf
  try clear Yc0 Yc1 Yc2 Yc3 Ycf
  obtain ⟨Xc0, Xc1, Xc2, Xc3, Xcf⟩ := four X_2
  obtain ⟨Yc0, Yc1, Yc2, Yc3, Ycf⟩ := four Y_2
  have Xl2 : w.heap.size < w2.heap.size := by omega
  have Yl2 : w.heap.size + 1 < w2.heap.size := by omega
  go_wp2_with fail
  refine (HB.out _).mono ?_
  rintro e w3 ⟨rfl, hb3⟩
  have hs3 := hb3.size
  try simp only [World.size_alloc] at hs3
  have X_3 : w3.heap[w.heap.size]? = some (.cells #[.int .i64 a, .int .i64 b, .int .i64 c, .int .i64 d] 25 (0, 0)) := below_at hb3 (by first | omega | (simp; done) | (simp; omega)) (by (repeat (first | (with_reducible assumption) | (with_reducible exact alloc_at _ _) | ((with_reducible apply alloc_at'); (simp; done)) | (with_reducible apply alloc_at_lt) | (with_reducible apply heap_drew_at) | (with_reducible apply heap_drewN_at) | (with_reducible apply heap_setCell_same) | ((with_reducible apply heap_set_ne); (first | omega | (simp; done) | (simp; omega))))))
  have Y_3 : w3.heap[w.heap.size + 1]? = some (.cells #[.int .i64 a', .int .i64 b', .int .i64 c', .int .i64 d'] 25 (0, 0)) := below_at hb3 (by first | omega | (simp; done) | (simp; omega)) (by (repeat (first | (with_reducible assumption) | (with_reducible exact alloc_at _ _) | ((with_reducible apply alloc_at'); (simp; done)) | (with_reducible apply alloc_at_lt) | (with_reducible apply heap_drew_at) | (with_reducible apply heap_drewN_at) | (with_reducible apply heap_setCell_same) | ((with_reducible apply heap_set_ne); (first | omega | (simp; done) | (simp; omega))))))
  have R2x_3 : w3.heap[w2.heap.size]? = some (.cells #[.int .i64 0, .int .i64 0, .int .i64 0, .int .i64 0] 25 (0, 0)) := below_at hb3 (by first | omega | (simp; done) | (simp; omega)) (by (repeat (first | (with_reducible assumption) | (with_reducible exact alloc_at _ _) | ((with_reducible apply alloc_at'); (simp; done)) | (with_reducible apply alloc_at_lt) | (with_reducible apply heap_drew_at) | (with_reducible apply heap_drewN_at) | (with_reducible apply heap_setCell_same) | ((with_reducible apply heap_set_ne); (first | omega | (simp; done) | (simp; omega))))))
  have B3 : Below w.heap.size w w3 := Below.trans (by repeat (first | with_reducible assumption | with_reducible exact Below.refl _ _ | with_reducible refine Below.drew ?_ | with_reducible refine below_drewN ?_ _ | with_reducible refine below_alloc ?_ _ | with_reducible refine Below.alloc ?_ (by first | omega | (simp; done) | (simp; omega)) _ | with_reducible refine Below.setCell ?_ (by first | omega | (simp; done) | (simp; omega)) _)) (hb3.mono (by first | omega | (simp; done) | (simp; omega)))
  clear hb3 X_2 Y_2
  try clear Xc0 Xc1 Xc2 Xc3 Xcf
  try clear Yc0 Yc1 Yc2 Yc3 Ycf
  try clear R2xc0 R2xc1 R2xc2 R2xc3 R2xcf
  obtain ⟨Xc0, Xc1, Xc2, Xc3, Xcf⟩ := four X_3
  obtain ⟨Yc0, Yc1, Yc2, Yc3, Ycf⟩ := four Y_3
  obtain ⟨R2xc0, R2xc1, R2xc2, R2xc3, R2xcf⟩ := four R2x_3
  have Xl3 : w.heap.size < w3.heap.size := by omega
  have Yl3 : w.heap.size + 1 < w3.heap.size := by omega
  have R2xl3 : w2.heap.size < w3.heap.size := by omega
  go_wp2_with fail
  refine (HF.out _).mono ?_
  rintro e w4 ⟨rfl, hb4⟩
  have hs4 := hb4.size
  try simp only [World.size_alloc] at hs4
  have X_4 : w4.heap[w.heap.size]? = some (.cells #[.int .i64 a, .int .i64 b, .int .i64 c, .int .i64 d] 25 (0, 0)) := below_at hb4 (by first | omega | (simp; done) | (simp; omega)) (by (repeat (first | (with_reducible assumption) | (with_reducible exact alloc_at _ _) | ((with_reducible apply alloc_at'); (simp; done)) | (with_reducible apply alloc_at_lt) | (with_reducible apply heap_drew_at) | (with_reducible apply heap_drewN_at) | (with_reducible apply heap_setCell_same) | ((with_reducible apply heap_set_ne); (first | omega | (simp; done) | (simp; omega))))))
  have Y_4 : w4.heap[w.heap.size + 1]? = some (.cells #[.int .i64 a', .int .i64 b', .int .i64 c', .int .i64 d'] 25 (0, 0)) := below_at hb4 (by first | omega | (simp; done) | (simp; omega)) (by (repeat (first | (with_reducible assumption) | (with_reducible exact alloc_at _ _) | ((with_reducible apply alloc_at'); (simp; done)) | (with_reducible apply alloc_at_lt) | (with_reducible apply heap_drew_at) | (with_reducible apply heap_drewN_at) | (with_reducible apply heap_setCell_same) | ((with_reducible apply heap_set_ne); (first | omega | (simp; done) | (simp; omega))))))
  have R2x_4 : w4.heap[w2.heap.size]? = some (.cells #[.int .i64 0, .int .i64 0, .int .i64 0, .int .i64 0] 25 (0, 0)) := below_at hb4 (by first | omega | (simp; done) | (simp; omega)) (by (repeat (first | (with_reducible assumption) | (with_reducible exact alloc_at _ _) | ((with_reducible apply alloc_at'); (simp; done)) | (with_reducible apply alloc_at_lt) | (with_reducible apply heap_drew_at) | (with_reducible apply heap_drewN_at) | (with_reducible apply heap_setCell_same) | ((with_reducible apply heap_set_ne); (first | omega | (simp; done) | (simp; omega))))))
  have R3x_4 : w4.heap[w3.heap.size]? = some (.cells #[.int .i64 0, .int .i64 0, .int .i64 0, .int .i64 0] 25 (0, 0)) := below_at hb4 (by first | omega | (simp; done) | (simp; omega)) (by (repeat (first | (with_reducible assumption) | (with_reducible exact alloc_at _ _) | ((with_reducible apply alloc_at'); (simp; done)) | (with_reducible apply alloc_at_lt) | (with_reducible apply heap_drew_at) | (with_reducible apply heap_drewN_at) | (with_reducible apply heap_setCell_same) | ((with_reducible apply heap_set_ne); (first | omega | (simp; done) | (simp; omega))))))
  have B4 : Below w.heap.size w w4 := Below.trans (by repeat (first | with_reducible assumption | with_reducible exact Below.refl _ _ | with_reducible refine Below.drew ?_ | with_reducible refine below_drewN ?_ _ | with_reducible refine below_alloc ?_ _ | with_reducible refine Below.alloc ?_ (by first | omega | (simp; done) | (simp; omega)) _ | with_reducible refine Below.setCell ?_ (by first | omega | (simp; done) | (simp; omega)) _)) (hb4.mono (by first | omega | (simp; done) | (simp; omega)))
  clear hb4 X_3 Y_3 R2x_3
  try clear Xc0 Xc1 Xc2 Xc3 Xcf
  try clear Yc0 Yc1 Yc2 Yc3 Ycf
  try clear R2xc0 R2xc1 R2xc2 R2xc3 R2xcf
  try clear R3xc0 R3xc1 R3xc2 R3xc3 R3xcf
  obtain ⟨Xc0, Xc1, Xc2, Xc3, Xcf⟩ := four X_4
  obtain ⟨Yc0, Yc1, Yc2, Yc3, Ycf⟩ := four Y_4
  obtain ⟨R2xc0, R2xc1, R2xc2, R2xc3, R2xcf⟩ := four R2x_4
  obtain ⟨R3xc0, R3xc1, R3xc2, R3xc3, R3xcf⟩ := four R3x_4
  have Xl4 : w.heap.size < w4.heap.size := by omega
  have Yl4 : w.heap.size + 1 < w4.heap.size := by omega
  have R2xl4 : w2.heap.size < w4.heap.size := by omega
  have R3xl4 : w3.heap.size < w4.heap.size := by omega
  go_wp2_with fail
  refine (HG.out _).mono ?_
  rintro e w5 ⟨rfl, hb5⟩
  have hs5 := hb5.size
  try simp only [World.size_alloc] at hs5
  have X_5 : w5.heap[w.heap.size]? = some (.cells #[.int .i64 a, .int .i64 b, .int .i64 c, .int .i64 d] 25 (0, 0)) := below_at hb5 (by first | omega | (simp; done) | (simp; omega)) (by (repeat (first | (with_reducible assumption) | (with_reducible exact alloc_at _ _) | ((with_reducible apply alloc_at'); (simp; done)) | (with_reducible apply alloc_at_lt) | (with_reducible apply heap_drew_at) | (with_reducible apply heap_drewN_at) | (with_reducible apply heap_setCell_same) | ((with_reducible apply heap_set_ne); (first | omega | (simp; done) | (simp; omega))))))
  have Y_5 : w5.heap[w.heap.size + 1]? = some (.cells #[.int .i64 a', .int .i64 b', .int .i64 c', .int .i64 d'] 25 (0, 0)) := below_at hb5 (by first | omega | (simp; done) | (simp; omega)) (by (repeat (first | (with_reducible assumption) | (with_reducible exact alloc_at _ _) | ((with_reducible apply alloc_at'); (simp; done)) | (with_reducible apply alloc_at_lt) | (with_reducible apply heap_drew_at) | (with_reducible apply heap_drewN_at) | (with_reducible apply heap_setCell_same) | ((with_reducible apply heap_set_ne); (first | omega | (simp; done) | (simp; omega))))))
  have R2x_5 : w5.heap[w2.heap.size]? = some (.cells #[.int .i64 0, .int .i64 0, .int .i64 0, .int .i64 0] 25 (0, 0)) := below_at hb5 (by first | omega | (simp; done) | (simp; omega)) (by (repeat (first | (with_reducible assumption) | (with_reducible exact alloc_at _ _) | ((with_reducible apply alloc_at'); (simp; done)) | (with_reducible apply alloc_at_lt) | (with_reducible apply heap_drew_at) | (with_reducible apply heap_drewN_at) | (with_reducible apply heap_setCell_same) | ((with_reducible apply heap_set_ne); (first | omega | (simp; done) | (simp; omega))))))
  have R3x_5 : w5.heap[w3.heap.size]? = some (.cells #[.int .i64 0, .int .i64 0, .int .i64 0, .int .i64 0] 25 (0, 0)) := below_at hb5 (by first | omega | (simp; done) | (simp; omega)) (by (repeat (first | (with_reducible assumption) | (with_reducible exact alloc_at _ _) | ((with_reducible apply alloc_at'); (simp; done)) | (with_reducible apply alloc_at_lt) | (with_reducible apply heap_drew_at) | (with_reducible apply heap_drewN_at) | (with_reducible apply heap_setCell_same) | ((with_reducible apply heap_set_ne); (first | omega | (simp; done) | (simp; omega))))))
  have B5 : Below w.heap.size w w5 := Below.trans (by repeat (first | with_reducible assumption | with_reducible exact Below.refl _ _ | with_reducible refine Below.drew ?_ | with_reducible refine below_drewN ?_ _ | with_reducible refine below_alloc ?_ _ | with_reducible refine Below.alloc ?_ (by first | omega | (simp; done) | (simp; omega)) _ | with_reducible refine Below.setCell ?_ (by first | omega | (simp; done) | (simp; omega)) _)) (hb5.mono (by first | omega | (simp; done) | (simp; omega)))
  clear hb5 X_4 Y_4 R2x_4 R3x_4
  try clear Xc0 Xc1 Xc2 Xc3 Xcf
  try clear Yc0 Yc1 Yc2 Yc3 Ycf
  try clear R2xc0 R2xc1 R2xc2 R2xc3 R2xcf
  try clear R3xc0 R3xc1 R3xc2 R3xc3 R3xcf
  obtain ⟨Xc0, Xc1, Xc2, Xc3, Xcf⟩ := four X_5
  obtain ⟨Yc0, Yc1, Yc2, Yc3, Ycf⟩ := four Y_5
  obtain ⟨R2xc0, R2xc1, R2xc2, R2xc3, R2xcf⟩ := four R2x_5
  obtain ⟨R3xc0, R3xc1, R3xc2, R3xc3, R3xcf⟩ := four R3x_5
  have Xl5 : w.heap.size < w5.heap.size := by omega
  have Yl5 : w.heap.size + 1 < w5.heap.size := by omega
  have R2xl5 : w2.heap.size < w5.heap.size := by omega
  have R3xl5 : w3.heap.size < w5.heap.size := by omega
  go_wp2
  go_ret
  exact ⟨by first | rfl | simp, (by repeat (first | with_reducible assumption | with_reducible exact Below.refl _ _ | with_reducible refine Below.drew ?_ | with_reducible refine below_drewN ?_ _ | with_reducible refine below_alloc ?_ _ | with_reducible refine Below.alloc ?_ (by first | omega | (simp; done) | (simp; omega)) _ | with_reducible refine Below.setCell ?_ (by first | omega | (simp; done) | (simp; omega)) _))⟩
set_option maxHeartbeats 2000000 in
theorem back_over (a b c d a' b' c' d' : Int) (w : World) (hx : formedB a b c d = true) (hy : formedB a' b' c' d' = true) (ho : formedB (a + a') (b + b') (c + c') (d + d') = false) : Calls Try.prog 5 #[.agg #[.int .i64 a, .int .i64 b, .int .i64 c, .int .i64 d], .agg #[.int .i64 a', .int .i64 b', .int .i64 c', .int .i64 d']] w fun e w' => e = .returned (.bool true) ∧ Below w.heap.size w w' := by
  have ha : ∀ W, Calls Try.prog 12 #[.agg #[.int .i64 a, .int .i64 b, .int .i64 c, .int .i64 d], .agg #[.int .i64 a', .int .i64 b', .int .i64 c', .int .i64 d']] W fun e w' => e = .returned (.tuple #[.agg #[.int .i64 0, .int .i64 0, .int .i64 0, .int .i64 0], .int .i64 7]) ∧ Below W.heap.size W w' := fun W => by
    have h := by have h := add_any a b c d a' b' c' d' W; rw [addR_over (x := (a, b, c, d)) (y := (a', b', c', d')) hx hy ho] at h; exact h
    exact h
  have HA := hid ha
  clear ha
  have hb : ∀ W, Calls Try.prog 12 #[.agg #[.int .i64 a', .int .i64 b', .int .i64 c', .int .i64 d'], .agg #[.int .i64 a, .int .i64 b, .int .i64 c, .int .i64 d]] W fun e w' => e = .returned (.tuple #[.agg #[.int .i64 0, .int .i64 0, .int .i64 0, .int .i64 0], .int .i64 7]) ∧ Below W.heap.size W w' := fun W => by
    have h := by have h := add_any a' b' c' d' a b c d W; rw [addR_comm, addR_over (x := (a, b, c, d)) (y := (a', b', c', d')) hx hy ho] at h; exact h
    exact h
  have HB := hid hb
  clear hb
  have hf : ∀ W, Calls Try.prog 16 #[.agg #[.int .i64 a, .int .i64 b, .int .i64 c, .int .i64 d]] W fun e w' => e = .returned (.bool true) ∧ Below W.heap.size W w' := fun W => by
    have h := by have h := formed_any a b c d W; rw [hx] at h; exact h
    exact h
  have HF := hid hf
  clear hf
  have hg : ∀ W, Calls Try.prog 16 #[.agg #[.int .i64 a', .int .i64 b', .int .i64 c', .int .i64 d']] W fun e w' => e = .returned (.bool true) ∧ Below W.heap.size W w' := fun W => by
    have h := by have h := formed_any a' b' c' d' W; rw [hy] at h; exact h
    exact h
  have HG := hid hg
  clear hg
  clear hx hy ho
  go_enter Try.func5, Try.ntmps5
  go_wp2_with fail
  refine (awake_any _).mono ?_
  rintro e w1 ⟨rfl, hb1⟩
  have hs1 := hb1.size
  try simp only [World.size_alloc] at hs1
  have X_1 : w1.heap[w.heap.size]? = some (.cells #[.int .i64 a, .int .i64 b, .int .i64 c, .int .i64 d] 25 (0, 0)) := below_at hb1 (by first | omega | (simp; done) | (simp; omega)) (by (repeat (first | (with_reducible assumption) | (with_reducible exact alloc_at _ _) | ((with_reducible apply alloc_at'); (simp; done)) | (with_reducible apply alloc_at_lt) | (with_reducible apply heap_drew_at) | (with_reducible apply heap_drewN_at) | (with_reducible apply heap_setCell_same) | ((with_reducible apply heap_set_ne); (first | omega | (simp; done) | (simp; omega))))))
  have Y_1 : w1.heap[w.heap.size + 1]? = some (.cells #[.int .i64 a', .int .i64 b', .int .i64 c', .int .i64 d'] 25 (0, 0)) := below_at hb1 (by first | omega | (simp; done) | (simp; omega)) (by (repeat (first | (with_reducible assumption) | (with_reducible exact alloc_at _ _) | ((with_reducible apply alloc_at'); (simp; done)) | (with_reducible apply alloc_at_lt) | (with_reducible apply heap_drew_at) | (with_reducible apply heap_drewN_at) | (with_reducible apply heap_setCell_same) | ((with_reducible apply heap_set_ne); (first | omega | (simp; done) | (simp; omega))))))
  have B1 : Below w.heap.size w w1 := Below.trans (by repeat (first | with_reducible assumption | with_reducible exact Below.refl _ _ | with_reducible refine Below.drew ?_ | with_reducible refine below_drewN ?_ _ | with_reducible refine below_alloc ?_ _ | with_reducible refine Below.alloc ?_ (by first | omega | (simp; done) | (simp; omega)) _ | with_reducible refine Below.setCell ?_ (by first | omega | (simp; done) | (simp; omega)) _)) (hb1.mono (by first | omega | (simp; done) | (simp; omega)))
  clear hb1
  try clear Xc0 Xc1 Xc2 Xc3 Xcf
  try clear Yc0 Yc1 Yc2 Yc3 Ycf
  obtain ⟨Xc0, Xc1, Xc2, Xc3, Xcf⟩ := four X_1
  obtain ⟨Yc0, Yc1, Yc2, Yc3, Ycf⟩ := four Y_1
  have Xl1 : w.heap.size < w1.heap.size := by omega
  have Yl1 : w.heap.size + 1 < w1.heap.size := by omega
  go_wp2_with fail
  refine (HA.out _).mono ?_
  rintro e w2 ⟨rfl, hb2⟩
  have hs2 := hb2.size
  try simp only [World.size_alloc] at hs2
  have X_2 : w2.heap[w.heap.size]? = some (.cells #[.int .i64 a, .int .i64 b, .int .i64 c, .int .i64 d] 25 (0, 0)) := below_at hb2 (by first | omega | (simp; done) | (simp; omega)) (by (repeat (first | (with_reducible assumption) | (with_reducible exact alloc_at _ _) | ((with_reducible apply alloc_at'); (simp; done)) | (with_reducible apply alloc_at_lt) | (with_reducible apply heap_drew_at) | (with_reducible apply heap_drewN_at) | (with_reducible apply heap_setCell_same) | ((with_reducible apply heap_set_ne); (first | omega | (simp; done) | (simp; omega))))))
  have Y_2 : w2.heap[w.heap.size + 1]? = some (.cells #[.int .i64 a', .int .i64 b', .int .i64 c', .int .i64 d'] 25 (0, 0)) := below_at hb2 (by first | omega | (simp; done) | (simp; omega)) (by (repeat (first | (with_reducible assumption) | (with_reducible exact alloc_at _ _) | ((with_reducible apply alloc_at'); (simp; done)) | (with_reducible apply alloc_at_lt) | (with_reducible apply heap_drew_at) | (with_reducible apply heap_drewN_at) | (with_reducible apply heap_setCell_same) | ((with_reducible apply heap_set_ne); (first | omega | (simp; done) | (simp; omega))))))
  have B2 : Below w.heap.size w w2 := Below.trans (by repeat (first | with_reducible assumption | with_reducible exact Below.refl _ _ | with_reducible refine Below.drew ?_ | with_reducible refine below_drewN ?_ _ | with_reducible refine below_alloc ?_ _ | with_reducible refine Below.alloc ?_ (by first | omega | (simp; done) | (simp; omega)) _ | with_reducible refine Below.setCell ?_ (by first | omega | (simp; done) | (simp; omega)) _)) (hb2.mono (by first | omega | (simp; done) | (simp; omega)))
  clear hb2 X_1 Y_1
  try clear Xc0 Xc1 Xc2 Xc3 Xcf
  try clear Yc0 Yc1 Yc2 Yc3 Ycf
  obtain ⟨Xc0, Xc1, Xc2, Xc3, Xcf⟩ := four X_2
  obtain ⟨Yc0, Yc1, Yc2, Yc3, Ycf⟩ := four Y_2
  have Xl2 : w.heap.size < w2.heap.size := by omega
  have Yl2 : w.heap.size + 1 < w2.heap.size := by omega
  go_wp2_with fail
  refine (HB.out _).mono ?_
  rintro e w3 ⟨rfl, hb3⟩
  have hs3 := hb3.size
  try simp only [World.size_alloc] at hs3
  have X_3 : w3.heap[w.heap.size]? = some (.cells #[.int .i64 a, .int .i64 b, .int .i64 c, .int .i64 d] 25 (0, 0)) := below_at hb3 (by first | omega | (simp; done) | (simp; omega)) (by (repeat (first | (with_reducible assumption) | (with_reducible exact alloc_at _ _) | ((with_reducible apply alloc_at'); (simp; done)) | (with_reducible apply alloc_at_lt) | (with_reducible apply heap_drew_at) | (with_reducible apply heap_drewN_at) | (with_reducible apply heap_setCell_same) | ((with_reducible apply heap_set_ne); (first | omega | (simp; done) | (simp; omega))))))
  have Y_3 : w3.heap[w.heap.size + 1]? = some (.cells #[.int .i64 a', .int .i64 b', .int .i64 c', .int .i64 d'] 25 (0, 0)) := below_at hb3 (by first | omega | (simp; done) | (simp; omega)) (by (repeat (first | (with_reducible assumption) | (with_reducible exact alloc_at _ _) | ((with_reducible apply alloc_at'); (simp; done)) | (with_reducible apply alloc_at_lt) | (with_reducible apply heap_drew_at) | (with_reducible apply heap_drewN_at) | (with_reducible apply heap_setCell_same) | ((with_reducible apply heap_set_ne); (first | omega | (simp; done) | (simp; omega))))))
  have R2x_3 : w3.heap[w2.heap.size]? = some (.cells #[.int .i64 0, .int .i64 0, .int .i64 0, .int .i64 0] 25 (0, 0)) := below_at hb3 (by first | omega | (simp; done) | (simp; omega)) (by (repeat (first | (with_reducible assumption) | (with_reducible exact alloc_at _ _) | ((with_reducible apply alloc_at'); (simp; done)) | (with_reducible apply alloc_at_lt) | (with_reducible apply heap_drew_at) | (with_reducible apply heap_drewN_at) | (with_reducible apply heap_setCell_same) | ((with_reducible apply heap_set_ne); (first | omega | (simp; done) | (simp; omega))))))
  have B3 : Below w.heap.size w w3 := Below.trans (by repeat (first | with_reducible assumption | with_reducible exact Below.refl _ _ | with_reducible refine Below.drew ?_ | with_reducible refine below_drewN ?_ _ | with_reducible refine below_alloc ?_ _ | with_reducible refine Below.alloc ?_ (by first | omega | (simp; done) | (simp; omega)) _ | with_reducible refine Below.setCell ?_ (by first | omega | (simp; done) | (simp; omega)) _)) (hb3.mono (by first | omega | (simp; done) | (simp; omega)))
  clear hb3 X_2 Y_2
  try clear Xc0 Xc1 Xc2 Xc3 Xcf
  try clear Yc0 Yc1 Yc2 Yc3 Ycf
  try clear R2xc0 R2xc1 R2xc2 R2xc3 R2xcf
  obtain ⟨Xc0, Xc1, Xc2, Xc3, Xcf⟩ := four X_3
  obtain ⟨Yc0, Yc1, Yc2, Yc3, Ycf⟩ := four Y_3
  obtain ⟨R2xc0, R2xc1, R2xc2, R2xc3, R2xcf⟩ := four R2x_3
  have Xl3 : w.heap.size < w3.heap.size := by omega
  have Yl3 : w.heap.size + 1 < w3.heap.size := by omega
  have R2xl3 : w2.heap.size < w3.heap.size := by omega
  go_wp2_with fail
  refine (HF.out _).mono ?_
  rintro e w4 ⟨rfl, hb4⟩
  have hs4 := hb4.size
  try simp only [World.size_alloc] at hs4
  have X_4 : w4.heap[w.heap.size]? = some (.cells #[.int .i64 a, .int .i64 b, .int .i64 c, .int .i64 d] 25 (0, 0)) := below_at hb4 (by first | omega | (simp; done) | (simp; omega)) (by (repeat (first | (with_reducible assumption) | (with_reducible exact alloc_at _ _) | ((with_reducible apply alloc_at'); (simp; done)) | (with_reducible apply alloc_at_lt) | (with_reducible apply heap_drew_at) | (with_reducible apply heap_drewN_at) | (with_reducible apply heap_setCell_same) | ((with_reducible apply heap_set_ne); (first | omega | (simp; done) | (simp; omega))))))
  have Y_4 : w4.heap[w.heap.size + 1]? = some (.cells #[.int .i64 a', .int .i64 b', .int .i64 c', .int .i64 d'] 25 (0, 0)) := below_at hb4 (by first | omega | (simp; done) | (simp; omega)) (by (repeat (first | (with_reducible assumption) | (with_reducible exact alloc_at _ _) | ((with_reducible apply alloc_at'); (simp; done)) | (with_reducible apply alloc_at_lt) | (with_reducible apply heap_drew_at) | (with_reducible apply heap_drewN_at) | (with_reducible apply heap_setCell_same) | ((with_reducible apply heap_set_ne); (first | omega | (simp; done) | (simp; omega))))))
  have R2x_4 : w4.heap[w2.heap.size]? = some (.cells #[.int .i64 0, .int .i64 0, .int .i64 0, .int .i64 0] 25 (0, 0)) := below_at hb4 (by first | omega | (simp; done) | (simp; omega)) (by (repeat (first | (with_reducible assumption) | (with_reducible exact alloc_at _ _) | ((with_reducible apply alloc_at'); (simp; done)) | (with_reducible apply alloc_at_lt) | (with_reducible apply heap_drew_at) | (with_reducible apply heap_drewN_at) | (with_reducible apply heap_setCell_same) | ((with_reducible apply heap_set_ne); (first | omega | (simp; done) | (simp; omega))))))
  have R3x_4 : w4.heap[w3.heap.size]? = some (.cells #[.int .i64 0, .int .i64 0, .int .i64 0, .int .i64 0] 25 (0, 0)) := below_at hb4 (by first | omega | (simp; done) | (simp; omega)) (by (repeat (first | (with_reducible assumption) | (with_reducible exact alloc_at _ _) | ((with_reducible apply alloc_at'); (simp; done)) | (with_reducible apply alloc_at_lt) | (with_reducible apply heap_drew_at) | (with_reducible apply heap_drewN_at) | (with_reducible apply heap_setCell_same) | ((with_reducible apply heap_set_ne); (first | omega | (simp; done) | (simp; omega))))))
  have B4 : Below w.heap.size w w4 := Below.trans (by repeat (first | with_reducible assumption | with_reducible exact Below.refl _ _ | with_reducible refine Below.drew ?_ | with_reducible refine below_drewN ?_ _ | with_reducible refine below_alloc ?_ _ | with_reducible refine Below.alloc ?_ (by first | omega | (simp; done) | (simp; omega)) _ | with_reducible refine Below.setCell ?_ (by first | omega | (simp; done) | (simp; omega)) _)) (hb4.mono (by first | omega | (simp; done) | (simp; omega)))
  clear hb4 X_3 Y_3 R2x_3
  try clear Xc0 Xc1 Xc2 Xc3 Xcf
  try clear Yc0 Yc1 Yc2 Yc3 Ycf
  try clear R2xc0 R2xc1 R2xc2 R2xc3 R2xcf
  try clear R3xc0 R3xc1 R3xc2 R3xc3 R3xcf
  obtain ⟨Xc0, Xc1, Xc2, Xc3, Xcf⟩ := four X_4
  obtain ⟨Yc0, Yc1, Yc2, Yc3, Ycf⟩ := four Y_4
  obtain ⟨R2xc0, R2xc1, R2xc2, R2xc3, R2xcf⟩ := four R2x_4
  obtain ⟨R3xc0, R3xc1, R3xc2, R3xc3, R3xcf⟩ := four R3x_4
  have Xl4 : w.heap.size < w4.heap.size := by omega
  have Yl4 : w.heap.size + 1 < w4.heap.size := by omega
  have R2xl4 : w2.heap.size < w4.heap.size := by omega
  have R3xl4 : w3.heap.size < w4.heap.size := by omega
  go_wp2_with fail
  refine (HG.out _).mono ?_
  rintro e w5 ⟨rfl, hb5⟩
  have hs5 := hb5.size
  try simp only [World.size_alloc] at hs5
  have X_5 : w5.heap[w.heap.size]? = some (.cells #[.int .i64 a, .int .i64 b, .int .i64 c, .int .i64 d] 25 (0, 0)) := below_at hb5 (by first | omega | (simp; done) | (simp; omega)) (by (repeat (first | (with_reducible assumption) | (with_reducible exact alloc_at _ _) | ((with_reducible apply alloc_at'); (simp; done)) | (with_reducible apply alloc_at_lt) | (with_reducible apply heap_drew_at) | (with_reducible apply heap_drewN_at) | (with_reducible apply heap_setCell_same) | ((with_reducible apply heap_set_ne); (first | omega | (simp; done) | (simp; omega))))))
  have Y_5 : w5.heap[w.heap.size + 1]? = some (.cells #[.int .i64 a', .int .i64 b', .int .i64 c', .int .i64 d'] 25 (0, 0)) := below_at hb5 (by first | omega | (simp; done) | (simp; omega)) (by (repeat (first | (with_reducible assumption) | (with_reducible exact alloc_at _ _) | ((with_reducible apply alloc_at'); (simp; done)) | (with_reducible apply alloc_at_lt) | (with_reducible apply heap_drew_at) | (with_reducible apply heap_drewN_at) | (with_reducible apply heap_setCell_same) | ((with_reducible apply heap_set_ne); (first | omega | (simp; done) | (simp; omega))))))
  have R2x_5 : w5.heap[w2.heap.size]? = some (.cells #[.int .i64 0, .int .i64 0, .int .i64 0, .int .i64 0] 25 (0, 0)) := below_at hb5 (by first | omega | (simp; done) | (simp; omega)) (by (repeat (first | (with_reducible assumption) | (with_reducible exact alloc_at _ _) | ((with_reducible apply alloc_at'); (simp; done)) | (with_reducible apply alloc_at_lt) | (with_reducible apply heap_drew_at) | (with_reducible apply heap_drewN_at) | (with_reducible apply heap_setCell_same) | ((with_reducible apply heap_set_ne); (first | omega | (simp; done) | (simp; omega))))))
  have R3x_5 : w5.heap[w3.heap.size]? = some (.cells #[.int .i64 0, .int .i64 0, .int .i64 0, .int .i64 0] 25 (0, 0)) := below_at hb5 (by first | omega | (simp; done) | (simp; omega)) (by (repeat (first | (with_reducible assumption) | (with_reducible exact alloc_at _ _) | ((with_reducible apply alloc_at'); (simp; done)) | (with_reducible apply alloc_at_lt) | (with_reducible apply heap_drew_at) | (with_reducible apply heap_drewN_at) | (with_reducible apply heap_setCell_same) | ((with_reducible apply heap_set_ne); (first | omega | (simp; done) | (simp; omega))))))
  have B5 : Below w.heap.size w w5 := Below.trans (by repeat (first | with_reducible assumption | with_reducible exact Below.refl _ _ | with_reducible refine Below.drew ?_ | with_reducible refine below_drewN ?_ _ | with_reducible refine below_alloc ?_ _ | with_reducible refine Below.alloc ?_ (by first | omega | (simp; done) | (simp; omega)) _ | with_reducible refine Below.setCell ?_ (by first | omega | (simp; done) | (simp; omega)) _)) (hb5.mono (by first | omega | (simp; done) | (simp; omega)))
  clear hb5 X_4 Y_4 R2x_4 R3x_4
  try clear Xc0 Xc1 Xc2 Xc3 Xcf
  try clear Yc0 Yc1 Yc2 Yc3 Ycf
  try clear R2xc0 R2xc1 R2xc2 R2xc3 R2xcf
  try clear R3xc0 R3xc1 R3xc2 R3xc3 R3xcf
  obtain ⟨Xc0, Xc1, Xc2, Xc3, Xcf⟩ := four X_5
  obtain ⟨Yc0, Yc1, Yc2, Yc3, Ycf⟩ := four Y_5
  obtain ⟨R2xc0, R2xc1, R2xc2, R2xc3, R2xcf⟩ := four R2x_5
  obtain ⟨R3xc0, R3xc1, R3xc2, R3xc3, R3xcf⟩ := four R3x_5
  have Xl5 : w.heap.size < w5.heap.size := by omega
  have Yl5 : w.heap.size + 1 < w5.heap.size := by omega
  have R2xl5 : w2.heap.size < w5.heap.size := by omega
  have R3xl5 : w3.heap.size < w5.heap.size := by omega
  go_wp2
  go_ret
  exact ⟨by first | rfl | simp, (by repeat (first | with_reducible assumption | with_reducible exact Below.refl _ _ | with_reducible refine Below.drew ?_ | with_reducible refine below_drewN ?_ _ | with_reducible refine below_alloc ?_ _ | with_reducible refine Below.alloc ?_ (by first | omega | (simp; done) | (simp; omega)) _ | with_reducible refine Below.setCell ?_ (by first | omega | (simp; done) | (simp; omega)) _))⟩
set_option maxHeartbeats 2000000 in
theorem back_ok (a b c d a' b' c' d' : Int) (w : World) (hx : formedB a b c d = true) (hy : formedB a' b' c' d' = true) (ho : formedB (a + a') (b + b') (c + c') (d + d') = true) : Calls Try.prog 5 #[.agg #[.int .i64 a, .int .i64 b, .int .i64 c, .int .i64 d], .agg #[.int .i64 a', .int .i64 b', .int .i64 c', .int .i64 d']] w fun e w' => e = .returned (.bool true) ∧ Below w.heap.size w w' := by
  have ha : ∀ W, Calls Try.prog 12 #[.agg #[.int .i64 a, .int .i64 b, .int .i64 c, .int .i64 d], .agg #[.int .i64 a', .int .i64 b', .int .i64 c', .int .i64 d']] W fun e w' => e = .returned (.tuple #[.agg #[.int .i64 (a + a'), .int .i64 (b + b'), .int .i64 (c + c'), .int .i64 (d + d')], .int .i64 0]) ∧ Below W.heap.size W w' := fun W => by
    have h := by have h := add_any a b c d a' b' c' d' W; rw [addR_ok (x := (a, b, c, d)) (y := (a', b', c', d')) hx hy ho] at h; exact h
    exact h
  have HA := hid ha
  clear ha
  have hb : ∀ W, Calls Try.prog 12 #[.agg #[.int .i64 a', .int .i64 b', .int .i64 c', .int .i64 d'], .agg #[.int .i64 a, .int .i64 b, .int .i64 c, .int .i64 d]] W fun e w' => e = .returned (.tuple #[.agg #[.int .i64 (a + a'), .int .i64 (b + b'), .int .i64 (c + c'), .int .i64 (d + d')], .int .i64 0]) ∧ Below W.heap.size W w' := fun W => by
    have h := by have h := add_any a' b' c' d' a b c d W; rw [addR_comm, addR_ok (x := (a, b, c, d)) (y := (a', b', c', d')) hx hy ho] at h; exact h
    exact h
  have HB := hid hb
  clear hb
  have hs : ∀ W, Calls Try.prog 14 #[.agg #[.int .i64 (a + a'), .int .i64 (b + b'), .int .i64 (c + c'), .int .i64 (d + d')], .agg #[.int .i64 a', .int .i64 b', .int .i64 c', .int .i64 d']] W fun e w' => e = .returned (.tuple #[.agg #[.int .i64 a, .int .i64 b, .int .i64 c, .int .i64 d], .int .i64 0]) ∧ Below W.heap.size W w' := fun W => by
    have h := by have h := sub_any (a + a') (b + b') (c + c') (d + d') a' b' c' d' W; rw [sub_add a b c d a' b' c' d' hx hy ho] at h; exact h
    exact h
  have HS := hid hs
  clear hs
  have hp : ∀ W, Calls Try.prog 17 #[.agg #[.int .i64 a, .int .i64 b, .int .i64 c, .int .i64 d], .agg #[.int .i64 (a + a'), .int .i64 (b + b'), .int .i64 (c + c'), .int .i64 (d + d')]] W fun e w' => e = .returned (.bool true) ∧ Below W.heap.size W w' := fun W => by
    have h := by have h := fits_any a b c d (a + a') (b + b') (c + c') (d + d') W; rw [fits_l a b c d a' b' c' d' hy] at h; exact h
    exact h
  have HP := hid hp
  clear hp
  have hq : ∀ W, Calls Try.prog 17 #[.agg #[.int .i64 a', .int .i64 b', .int .i64 c', .int .i64 d'], .agg #[.int .i64 (a + a'), .int .i64 (b + b'), .int .i64 (c + c'), .int .i64 (d + d')]] W fun e w' => e = .returned (.bool true) ∧ Below W.heap.size W w' := fun W => by
    have h := by have h := fits_any a' b' c' d' (a + a') (b + b') (c + c') (d + d') W; rw [fits_r a b c d a' b' c' d' hx] at h; exact h
    exact h
  have HQ := hid hq
  clear hq
  have hf : ∀ W, Calls Try.prog 16 #[.agg #[.int .i64 (a + a'), .int .i64 (b + b'), .int .i64 (c + c'), .int .i64 (d + d')]] W fun e w' => e = .returned (.bool true) ∧ Below W.heap.size W w' := fun W => by
    have h := by have h := formed_any (a + a') (b + b') (c + c') (d + d') W; rw [ho] at h; exact h
    exact h
  have HF := hid hf
  clear hf
  clear hx hy ho
  go_enter Try.func5, Try.ntmps5
  go_wp2_with fail
  refine (awake_any _).mono ?_
  rintro e w1 ⟨rfl, hb1⟩
  have hs1 := hb1.size
  try simp only [World.size_alloc] at hs1
  have X_1 : w1.heap[w.heap.size]? = some (.cells #[.int .i64 a, .int .i64 b, .int .i64 c, .int .i64 d] 25 (0, 0)) := below_at hb1 (by first | omega | (simp; done) | (simp; omega)) (by (repeat (first | (with_reducible assumption) | (with_reducible exact alloc_at _ _) | ((with_reducible apply alloc_at'); (simp; done)) | (with_reducible apply alloc_at_lt) | (with_reducible apply heap_drew_at) | (with_reducible apply heap_drewN_at) | (with_reducible apply heap_setCell_same) | ((with_reducible apply heap_set_ne); (first | omega | (simp; done) | (simp; omega))))))
  have Y_1 : w1.heap[w.heap.size + 1]? = some (.cells #[.int .i64 a', .int .i64 b', .int .i64 c', .int .i64 d'] 25 (0, 0)) := below_at hb1 (by first | omega | (simp; done) | (simp; omega)) (by (repeat (first | (with_reducible assumption) | (with_reducible exact alloc_at _ _) | ((with_reducible apply alloc_at'); (simp; done)) | (with_reducible apply alloc_at_lt) | (with_reducible apply heap_drew_at) | (with_reducible apply heap_drewN_at) | (with_reducible apply heap_setCell_same) | ((with_reducible apply heap_set_ne); (first | omega | (simp; done) | (simp; omega))))))
  have B1 : Below w.heap.size w w1 := Below.trans (by repeat (first | with_reducible assumption | with_reducible exact Below.refl _ _ | with_reducible refine Below.drew ?_ | with_reducible refine below_drewN ?_ _ | with_reducible refine below_alloc ?_ _ | with_reducible refine Below.alloc ?_ (by first | omega | (simp; done) | (simp; omega)) _ | with_reducible refine Below.setCell ?_ (by first | omega | (simp; done) | (simp; omega)) _)) (hb1.mono (by first | omega | (simp; done) | (simp; omega)))
  clear hb1
  try clear Xc0 Xc1 Xc2 Xc3 Xcf
  try clear Yc0 Yc1 Yc2 Yc3 Ycf
  obtain ⟨Xc0, Xc1, Xc2, Xc3, Xcf⟩ := four X_1
  obtain ⟨Yc0, Yc1, Yc2, Yc3, Ycf⟩ := four Y_1
  have Xl1 : w.heap.size < w1.heap.size := by omega
  have Yl1 : w.heap.size + 1 < w1.heap.size := by omega
  go_wp2_with fail
  refine (HA.out _).mono ?_
  rintro e w2 ⟨rfl, hb2⟩
  have hs2 := hb2.size
  try simp only [World.size_alloc] at hs2
  have X_2 : w2.heap[w.heap.size]? = some (.cells #[.int .i64 a, .int .i64 b, .int .i64 c, .int .i64 d] 25 (0, 0)) := below_at hb2 (by first | omega | (simp; done) | (simp; omega)) (by (repeat (first | (with_reducible assumption) | (with_reducible exact alloc_at _ _) | ((with_reducible apply alloc_at'); (simp; done)) | (with_reducible apply alloc_at_lt) | (with_reducible apply heap_drew_at) | (with_reducible apply heap_drewN_at) | (with_reducible apply heap_setCell_same) | ((with_reducible apply heap_set_ne); (first | omega | (simp; done) | (simp; omega))))))
  have Y_2 : w2.heap[w.heap.size + 1]? = some (.cells #[.int .i64 a', .int .i64 b', .int .i64 c', .int .i64 d'] 25 (0, 0)) := below_at hb2 (by first | omega | (simp; done) | (simp; omega)) (by (repeat (first | (with_reducible assumption) | (with_reducible exact alloc_at _ _) | ((with_reducible apply alloc_at'); (simp; done)) | (with_reducible apply alloc_at_lt) | (with_reducible apply heap_drew_at) | (with_reducible apply heap_drewN_at) | (with_reducible apply heap_setCell_same) | ((with_reducible apply heap_set_ne); (first | omega | (simp; done) | (simp; omega))))))
  have B2 : Below w.heap.size w w2 := Below.trans (by repeat (first | with_reducible assumption | with_reducible exact Below.refl _ _ | with_reducible refine Below.drew ?_ | with_reducible refine below_drewN ?_ _ | with_reducible refine below_alloc ?_ _ | with_reducible refine Below.alloc ?_ (by first | omega | (simp; done) | (simp; omega)) _ | with_reducible refine Below.setCell ?_ (by first | omega | (simp; done) | (simp; omega)) _)) (hb2.mono (by first | omega | (simp; done) | (simp; omega)))
  clear hb2 X_1 Y_1
  try clear Xc0 Xc1 Xc2 Xc3 Xcf
  try clear Yc0 Yc1 Yc2 Yc3 Ycf
  obtain ⟨Xc0, Xc1, Xc2, Xc3, Xcf⟩ := four X_2
  obtain ⟨Yc0, Yc1, Yc2, Yc3, Ycf⟩ := four Y_2
  have Xl2 : w.heap.size < w2.heap.size := by omega
  have Yl2 : w.heap.size + 1 < w2.heap.size := by omega
  go_wp2_with fail
  refine (HB.out _).mono ?_
  rintro e w3 ⟨rfl, hb3⟩
  have hs3 := hb3.size
  try simp only [World.size_alloc] at hs3
  have X_3 : w3.heap[w.heap.size]? = some (.cells #[.int .i64 a, .int .i64 b, .int .i64 c, .int .i64 d] 25 (0, 0)) := below_at hb3 (by first | omega | (simp; done) | (simp; omega)) (by (repeat (first | (with_reducible assumption) | (with_reducible exact alloc_at _ _) | ((with_reducible apply alloc_at'); (simp; done)) | (with_reducible apply alloc_at_lt) | (with_reducible apply heap_drew_at) | (with_reducible apply heap_drewN_at) | (with_reducible apply heap_setCell_same) | ((with_reducible apply heap_set_ne); (first | omega | (simp; done) | (simp; omega))))))
  have Y_3 : w3.heap[w.heap.size + 1]? = some (.cells #[.int .i64 a', .int .i64 b', .int .i64 c', .int .i64 d'] 25 (0, 0)) := below_at hb3 (by first | omega | (simp; done) | (simp; omega)) (by (repeat (first | (with_reducible assumption) | (with_reducible exact alloc_at _ _) | ((with_reducible apply alloc_at'); (simp; done)) | (with_reducible apply alloc_at_lt) | (with_reducible apply heap_drew_at) | (with_reducible apply heap_drewN_at) | (with_reducible apply heap_setCell_same) | ((with_reducible apply heap_set_ne); (first | omega | (simp; done) | (simp; omega))))))
  have R2x_3 : w3.heap[w2.heap.size]? = some (.cells #[.int .i64 (a + a'), .int .i64 (b + b'), .int .i64 (c + c'), .int .i64 (d + d')] 25 (0, 0)) := below_at hb3 (by first | omega | (simp; done) | (simp; omega)) (by (repeat (first | (with_reducible assumption) | (with_reducible exact alloc_at _ _) | ((with_reducible apply alloc_at'); (simp; done)) | (with_reducible apply alloc_at_lt) | (with_reducible apply heap_drew_at) | (with_reducible apply heap_drewN_at) | (with_reducible apply heap_setCell_same) | ((with_reducible apply heap_set_ne); (first | omega | (simp; done) | (simp; omega))))))
  have B3 : Below w.heap.size w w3 := Below.trans (by repeat (first | with_reducible assumption | with_reducible exact Below.refl _ _ | with_reducible refine Below.drew ?_ | with_reducible refine below_drewN ?_ _ | with_reducible refine below_alloc ?_ _ | with_reducible refine Below.alloc ?_ (by first | omega | (simp; done) | (simp; omega)) _ | with_reducible refine Below.setCell ?_ (by first | omega | (simp; done) | (simp; omega)) _)) (hb3.mono (by first | omega | (simp; done) | (simp; omega)))
  clear hb3 X_2 Y_2
  try clear Xc0 Xc1 Xc2 Xc3 Xcf
  try clear Yc0 Yc1 Yc2 Yc3 Ycf
  try clear R2xc0 R2xc1 R2xc2 R2xc3 R2xcf
  obtain ⟨Xc0, Xc1, Xc2, Xc3, Xcf⟩ := four X_3
  obtain ⟨Yc0, Yc1, Yc2, Yc3, Ycf⟩ := four Y_3
  obtain ⟨R2xc0, R2xc1, R2xc2, R2xc3, R2xcf⟩ := four R2x_3
  have Xl3 : w.heap.size < w3.heap.size := by omega
  have Yl3 : w.heap.size + 1 < w3.heap.size := by omega
  have R2xl3 : w2.heap.size < w3.heap.size := by omega
  go_wp2_with fail
  refine (HS.out _).mono ?_
  rintro e w4 ⟨rfl, hb4⟩
  have hs4 := hb4.size
  try simp only [World.size_alloc] at hs4
  have X_4 : w4.heap[w.heap.size]? = some (.cells #[.int .i64 a, .int .i64 b, .int .i64 c, .int .i64 d] 25 (0, 0)) := below_at hb4 (by first | omega | (simp; done) | (simp; omega)) (by (repeat (first | (with_reducible assumption) | (with_reducible exact alloc_at _ _) | ((with_reducible apply alloc_at'); (simp; done)) | (with_reducible apply alloc_at_lt) | (with_reducible apply heap_drew_at) | (with_reducible apply heap_drewN_at) | (with_reducible apply heap_setCell_same) | ((with_reducible apply heap_set_ne); (first | omega | (simp; done) | (simp; omega))))))
  have Y_4 : w4.heap[w.heap.size + 1]? = some (.cells #[.int .i64 a', .int .i64 b', .int .i64 c', .int .i64 d'] 25 (0, 0)) := below_at hb4 (by first | omega | (simp; done) | (simp; omega)) (by (repeat (first | (with_reducible assumption) | (with_reducible exact alloc_at _ _) | ((with_reducible apply alloc_at'); (simp; done)) | (with_reducible apply alloc_at_lt) | (with_reducible apply heap_drew_at) | (with_reducible apply heap_drewN_at) | (with_reducible apply heap_setCell_same) | ((with_reducible apply heap_set_ne); (first | omega | (simp; done) | (simp; omega))))))
  have R2x_4 : w4.heap[w2.heap.size]? = some (.cells #[.int .i64 (a + a'), .int .i64 (b + b'), .int .i64 (c + c'), .int .i64 (d + d')] 25 (0, 0)) := below_at hb4 (by first | omega | (simp; done) | (simp; omega)) (by (repeat (first | (with_reducible assumption) | (with_reducible exact alloc_at _ _) | ((with_reducible apply alloc_at'); (simp; done)) | (with_reducible apply alloc_at_lt) | (with_reducible apply heap_drew_at) | (with_reducible apply heap_drewN_at) | (with_reducible apply heap_setCell_same) | ((with_reducible apply heap_set_ne); (first | omega | (simp; done) | (simp; omega))))))
  have R3x_4 : w4.heap[w3.heap.size]? = some (.cells #[.int .i64 (a + a'), .int .i64 (b + b'), .int .i64 (c + c'), .int .i64 (d + d')] 25 (0, 0)) := below_at hb4 (by first | omega | (simp; done) | (simp; omega)) (by (repeat (first | (with_reducible assumption) | (with_reducible exact alloc_at _ _) | ((with_reducible apply alloc_at'); (simp; done)) | (with_reducible apply alloc_at_lt) | (with_reducible apply heap_drew_at) | (with_reducible apply heap_drewN_at) | (with_reducible apply heap_setCell_same) | ((with_reducible apply heap_set_ne); (first | omega | (simp; done) | (simp; omega))))))
  have B4 : Below w.heap.size w w4 := Below.trans (by repeat (first | with_reducible assumption | with_reducible exact Below.refl _ _ | with_reducible refine Below.drew ?_ | with_reducible refine below_drewN ?_ _ | with_reducible refine below_alloc ?_ _ | with_reducible refine Below.alloc ?_ (by first | omega | (simp; done) | (simp; omega)) _ | with_reducible refine Below.setCell ?_ (by first | omega | (simp; done) | (simp; omega)) _)) (hb4.mono (by first | omega | (simp; done) | (simp; omega)))
  clear hb4 X_3 Y_3 R2x_3
  try clear Xc0 Xc1 Xc2 Xc3 Xcf
  try clear Yc0 Yc1 Yc2 Yc3 Ycf
  try clear R2xc0 R2xc1 R2xc2 R2xc3 R2xcf
  try clear R3xc0 R3xc1 R3xc2 R3xc3 R3xcf
  obtain ⟨Xc0, Xc1, Xc2, Xc3, Xcf⟩ := four X_4
  obtain ⟨Yc0, Yc1, Yc2, Yc3, Ycf⟩ := four Y_4
  obtain ⟨R2xc0, R2xc1, R2xc2, R2xc3, R2xcf⟩ := four R2x_4
  obtain ⟨R3xc0, R3xc1, R3xc2, R3xc3, R3xcf⟩ := four R3x_4
  have Xl4 : w.heap.size < w4.heap.size := by omega
  have Yl4 : w.heap.size + 1 < w4.heap.size := by omega
  have R2xl4 : w2.heap.size < w4.heap.size := by omega
  have R3xl4 : w3.heap.size < w4.heap.size := by omega
  go_wp2_with fail
  refine (HP.out _).mono ?_
  rintro e w5 ⟨rfl, hb5⟩
  have hs5 := hb5.size
  try simp only [World.size_alloc] at hs5
  have X_5 : w5.heap[w.heap.size]? = some (.cells #[.int .i64 a, .int .i64 b, .int .i64 c, .int .i64 d] 25 (0, 0)) := below_at hb5 (by first | omega | (simp; done) | (simp; omega)) (by (repeat (first | (with_reducible assumption) | (with_reducible exact alloc_at _ _) | ((with_reducible apply alloc_at'); (simp; done)) | (with_reducible apply alloc_at_lt) | (with_reducible apply heap_drew_at) | (with_reducible apply heap_drewN_at) | (with_reducible apply heap_setCell_same) | ((with_reducible apply heap_set_ne); (first | omega | (simp; done) | (simp; omega))))))
  have Y_5 : w5.heap[w.heap.size + 1]? = some (.cells #[.int .i64 a', .int .i64 b', .int .i64 c', .int .i64 d'] 25 (0, 0)) := below_at hb5 (by first | omega | (simp; done) | (simp; omega)) (by (repeat (first | (with_reducible assumption) | (with_reducible exact alloc_at _ _) | ((with_reducible apply alloc_at'); (simp; done)) | (with_reducible apply alloc_at_lt) | (with_reducible apply heap_drew_at) | (with_reducible apply heap_drewN_at) | (with_reducible apply heap_setCell_same) | ((with_reducible apply heap_set_ne); (first | omega | (simp; done) | (simp; omega))))))
  have R2x_5 : w5.heap[w2.heap.size]? = some (.cells #[.int .i64 (a + a'), .int .i64 (b + b'), .int .i64 (c + c'), .int .i64 (d + d')] 25 (0, 0)) := below_at hb5 (by first | omega | (simp; done) | (simp; omega)) (by (repeat (first | (with_reducible assumption) | (with_reducible exact alloc_at _ _) | ((with_reducible apply alloc_at'); (simp; done)) | (with_reducible apply alloc_at_lt) | (with_reducible apply heap_drew_at) | (with_reducible apply heap_drewN_at) | (with_reducible apply heap_setCell_same) | ((with_reducible apply heap_set_ne); (first | omega | (simp; done) | (simp; omega))))))
  have R3x_5 : w5.heap[w3.heap.size]? = some (.cells #[.int .i64 (a + a'), .int .i64 (b + b'), .int .i64 (c + c'), .int .i64 (d + d')] 25 (0, 0)) := below_at hb5 (by first | omega | (simp; done) | (simp; omega)) (by (repeat (first | (with_reducible assumption) | (with_reducible exact alloc_at _ _) | ((with_reducible apply alloc_at'); (simp; done)) | (with_reducible apply alloc_at_lt) | (with_reducible apply heap_drew_at) | (with_reducible apply heap_drewN_at) | (with_reducible apply heap_setCell_same) | ((with_reducible apply heap_set_ne); (first | omega | (simp; done) | (simp; omega))))))
  have R4x_5 : w5.heap[w4.heap.size]? = some (.cells #[.int .i64 a, .int .i64 b, .int .i64 c, .int .i64 d] 25 (0, 0)) := below_at hb5 (by first | omega | (simp; done) | (simp; omega)) (by (repeat (first | (with_reducible assumption) | (with_reducible exact alloc_at _ _) | ((with_reducible apply alloc_at'); (simp; done)) | (with_reducible apply alloc_at_lt) | (with_reducible apply heap_drew_at) | (with_reducible apply heap_drewN_at) | (with_reducible apply heap_setCell_same) | ((with_reducible apply heap_set_ne); (first | omega | (simp; done) | (simp; omega))))))
  have B5 : Below w.heap.size w w5 := Below.trans (by repeat (first | with_reducible assumption | with_reducible exact Below.refl _ _ | with_reducible refine Below.drew ?_ | with_reducible refine below_drewN ?_ _ | with_reducible refine below_alloc ?_ _ | with_reducible refine Below.alloc ?_ (by first | omega | (simp; done) | (simp; omega)) _ | with_reducible refine Below.setCell ?_ (by first | omega | (simp; done) | (simp; omega)) _)) (hb5.mono (by first | omega | (simp; done) | (simp; omega)))
  clear hb5 X_4 Y_4 R2x_4 R3x_4
  try clear Xc0 Xc1 Xc2 Xc3 Xcf
  try clear Yc0 Yc1 Yc2 Yc3 Ycf
  try clear R2xc0 R2xc1 R2xc2 R2xc3 R2xcf
  try clear R3xc0 R3xc1 R3xc2 R3xc3 R3xcf
  try clear R4xc0 R4xc1 R4xc2 R4xc3 R4xcf
  obtain ⟨Xc0, Xc1, Xc2, Xc3, Xcf⟩ := four X_5
  obtain ⟨Yc0, Yc1, Yc2, Yc3, Ycf⟩ := four Y_5
  obtain ⟨R2xc0, R2xc1, R2xc2, R2xc3, R2xcf⟩ := four R2x_5
  obtain ⟨R3xc0, R3xc1, R3xc2, R3xc3, R3xcf⟩ := four R3x_5
  obtain ⟨R4xc0, R4xc1, R4xc2, R4xc3, R4xcf⟩ := four R4x_5
  have Xl5 : w.heap.size < w5.heap.size := by omega
  have Yl5 : w.heap.size + 1 < w5.heap.size := by omega
  have R2xl5 : w2.heap.size < w5.heap.size := by omega
  have R3xl5 : w3.heap.size < w5.heap.size := by omega
  have R4xl5 : w4.heap.size < w5.heap.size := by omega
  go_wp2_with fail
  refine (HQ.out _).mono ?_
  rintro e w6 ⟨rfl, hb6⟩
  have hs6 := hb6.size
  try simp only [World.size_alloc] at hs6
  have X_6 : w6.heap[w.heap.size]? = some (.cells #[.int .i64 a, .int .i64 b, .int .i64 c, .int .i64 d] 25 (0, 0)) := below_at hb6 (by first | omega | (simp; done) | (simp; omega)) (by (repeat (first | (with_reducible assumption) | (with_reducible exact alloc_at _ _) | ((with_reducible apply alloc_at'); (simp; done)) | (with_reducible apply alloc_at_lt) | (with_reducible apply heap_drew_at) | (with_reducible apply heap_drewN_at) | (with_reducible apply heap_setCell_same) | ((with_reducible apply heap_set_ne); (first | omega | (simp; done) | (simp; omega))))))
  have Y_6 : w6.heap[w.heap.size + 1]? = some (.cells #[.int .i64 a', .int .i64 b', .int .i64 c', .int .i64 d'] 25 (0, 0)) := below_at hb6 (by first | omega | (simp; done) | (simp; omega)) (by (repeat (first | (with_reducible assumption) | (with_reducible exact alloc_at _ _) | ((with_reducible apply alloc_at'); (simp; done)) | (with_reducible apply alloc_at_lt) | (with_reducible apply heap_drew_at) | (with_reducible apply heap_drewN_at) | (with_reducible apply heap_setCell_same) | ((with_reducible apply heap_set_ne); (first | omega | (simp; done) | (simp; omega))))))
  have R2x_6 : w6.heap[w2.heap.size]? = some (.cells #[.int .i64 (a + a'), .int .i64 (b + b'), .int .i64 (c + c'), .int .i64 (d + d')] 25 (0, 0)) := below_at hb6 (by first | omega | (simp; done) | (simp; omega)) (by (repeat (first | (with_reducible assumption) | (with_reducible exact alloc_at _ _) | ((with_reducible apply alloc_at'); (simp; done)) | (with_reducible apply alloc_at_lt) | (with_reducible apply heap_drew_at) | (with_reducible apply heap_drewN_at) | (with_reducible apply heap_setCell_same) | ((with_reducible apply heap_set_ne); (first | omega | (simp; done) | (simp; omega))))))
  have R3x_6 : w6.heap[w3.heap.size]? = some (.cells #[.int .i64 (a + a'), .int .i64 (b + b'), .int .i64 (c + c'), .int .i64 (d + d')] 25 (0, 0)) := below_at hb6 (by first | omega | (simp; done) | (simp; omega)) (by (repeat (first | (with_reducible assumption) | (with_reducible exact alloc_at _ _) | ((with_reducible apply alloc_at'); (simp; done)) | (with_reducible apply alloc_at_lt) | (with_reducible apply heap_drew_at) | (with_reducible apply heap_drewN_at) | (with_reducible apply heap_setCell_same) | ((with_reducible apply heap_set_ne); (first | omega | (simp; done) | (simp; omega))))))
  have R4x_6 : w6.heap[w4.heap.size]? = some (.cells #[.int .i64 a, .int .i64 b, .int .i64 c, .int .i64 d] 25 (0, 0)) := below_at hb6 (by first | omega | (simp; done) | (simp; omega)) (by (repeat (first | (with_reducible assumption) | (with_reducible exact alloc_at _ _) | ((with_reducible apply alloc_at'); (simp; done)) | (with_reducible apply alloc_at_lt) | (with_reducible apply heap_drew_at) | (with_reducible apply heap_drewN_at) | (with_reducible apply heap_setCell_same) | ((with_reducible apply heap_set_ne); (first | omega | (simp; done) | (simp; omega))))))
  have B6 : Below w.heap.size w w6 := Below.trans (by repeat (first | with_reducible assumption | with_reducible exact Below.refl _ _ | with_reducible refine Below.drew ?_ | with_reducible refine below_drewN ?_ _ | with_reducible refine below_alloc ?_ _ | with_reducible refine Below.alloc ?_ (by first | omega | (simp; done) | (simp; omega)) _ | with_reducible refine Below.setCell ?_ (by first | omega | (simp; done) | (simp; omega)) _)) (hb6.mono (by first | omega | (simp; done) | (simp; omega)))
  clear hb6 X_5 Y_5 R2x_5 R3x_5 R4x_5
  try clear Xc0 Xc1 Xc2 Xc3 Xcf
  try clear Yc0 Yc1 Yc2 Yc3 Ycf
  try clear R2xc0 R2xc1 R2xc2 R2xc3 R2xcf
  try clear R3xc0 R3xc1 R3xc2 R3xc3 R3xcf
  try clear R4xc0 R4xc1 R4xc2 R4xc3 R4xcf
  obtain ⟨Xc0, Xc1, Xc2, Xc3, Xcf⟩ := four X_6
  obtain ⟨Yc0, Yc1, Yc2, Yc3, Ycf⟩ := four Y_6
  obtain ⟨R2xc0, R2xc1, R2xc2, R2xc3, R2xcf⟩ := four R2x_6
  obtain ⟨R3xc0, R3xc1, R3xc2, R3xc3, R3xcf⟩ := four R3x_6
  obtain ⟨R4xc0, R4xc1, R4xc2, R4xc3, R4xcf⟩ := four R4x_6
  have Xl6 : w.heap.size < w6.heap.size := by omega
  have Yl6 : w.heap.size + 1 < w6.heap.size := by omega
  have R2xl6 : w2.heap.size < w6.heap.size := by omega
  have R3xl6 : w3.heap.size < w6.heap.size := by omega
  have R4xl6 : w4.heap.size < w6.heap.size := by omega
  go_wp2_with fail
  refine (HF.out _).mono ?_
  rintro e w7 ⟨rfl, hb7⟩
  have hs7 := hb7.size
  try simp only [World.size_alloc] at hs7
  have X_7 : w7.heap[w.heap.size]? = some (.cells #[.int .i64 a, .int .i64 b, .int .i64 c, .int .i64 d] 25 (0, 0)) := below_at hb7 (by first | omega | (simp; done) | (simp; omega)) (by (repeat (first | (with_reducible assumption) | (with_reducible exact alloc_at _ _) | ((with_reducible apply alloc_at'); (simp; done)) | (with_reducible apply alloc_at_lt) | (with_reducible apply heap_drew_at) | (with_reducible apply heap_drewN_at) | (with_reducible apply heap_setCell_same) | ((with_reducible apply heap_set_ne); (first | omega | (simp; done) | (simp; omega))))))
  have Y_7 : w7.heap[w.heap.size + 1]? = some (.cells #[.int .i64 a', .int .i64 b', .int .i64 c', .int .i64 d'] 25 (0, 0)) := below_at hb7 (by first | omega | (simp; done) | (simp; omega)) (by (repeat (first | (with_reducible assumption) | (with_reducible exact alloc_at _ _) | ((with_reducible apply alloc_at'); (simp; done)) | (with_reducible apply alloc_at_lt) | (with_reducible apply heap_drew_at) | (with_reducible apply heap_drewN_at) | (with_reducible apply heap_setCell_same) | ((with_reducible apply heap_set_ne); (first | omega | (simp; done) | (simp; omega))))))
  have R2x_7 : w7.heap[w2.heap.size]? = some (.cells #[.int .i64 (a + a'), .int .i64 (b + b'), .int .i64 (c + c'), .int .i64 (d + d')] 25 (0, 0)) := below_at hb7 (by first | omega | (simp; done) | (simp; omega)) (by (repeat (first | (with_reducible assumption) | (with_reducible exact alloc_at _ _) | ((with_reducible apply alloc_at'); (simp; done)) | (with_reducible apply alloc_at_lt) | (with_reducible apply heap_drew_at) | (with_reducible apply heap_drewN_at) | (with_reducible apply heap_setCell_same) | ((with_reducible apply heap_set_ne); (first | omega | (simp; done) | (simp; omega))))))
  have R3x_7 : w7.heap[w3.heap.size]? = some (.cells #[.int .i64 (a + a'), .int .i64 (b + b'), .int .i64 (c + c'), .int .i64 (d + d')] 25 (0, 0)) := below_at hb7 (by first | omega | (simp; done) | (simp; omega)) (by (repeat (first | (with_reducible assumption) | (with_reducible exact alloc_at _ _) | ((with_reducible apply alloc_at'); (simp; done)) | (with_reducible apply alloc_at_lt) | (with_reducible apply heap_drew_at) | (with_reducible apply heap_drewN_at) | (with_reducible apply heap_setCell_same) | ((with_reducible apply heap_set_ne); (first | omega | (simp; done) | (simp; omega))))))
  have R4x_7 : w7.heap[w4.heap.size]? = some (.cells #[.int .i64 a, .int .i64 b, .int .i64 c, .int .i64 d] 25 (0, 0)) := below_at hb7 (by first | omega | (simp; done) | (simp; omega)) (by (repeat (first | (with_reducible assumption) | (with_reducible exact alloc_at _ _) | ((with_reducible apply alloc_at'); (simp; done)) | (with_reducible apply alloc_at_lt) | (with_reducible apply heap_drew_at) | (with_reducible apply heap_drewN_at) | (with_reducible apply heap_setCell_same) | ((with_reducible apply heap_set_ne); (first | omega | (simp; done) | (simp; omega))))))
  have B7 : Below w.heap.size w w7 := Below.trans (by repeat (first | with_reducible assumption | with_reducible exact Below.refl _ _ | with_reducible refine Below.drew ?_ | with_reducible refine below_drewN ?_ _ | with_reducible refine below_alloc ?_ _ | with_reducible refine Below.alloc ?_ (by first | omega | (simp; done) | (simp; omega)) _ | with_reducible refine Below.setCell ?_ (by first | omega | (simp; done) | (simp; omega)) _)) (hb7.mono (by first | omega | (simp; done) | (simp; omega)))
  clear hb7 X_6 Y_6 R2x_6 R3x_6 R4x_6
  try clear Xc0 Xc1 Xc2 Xc3 Xcf
  try clear Yc0 Yc1 Yc2 Yc3 Ycf
  try clear R2xc0 R2xc1 R2xc2 R2xc3 R2xcf
  try clear R3xc0 R3xc1 R3xc2 R3xc3 R3xcf
  try clear R4xc0 R4xc1 R4xc2 R4xc3 R4xcf
  obtain ⟨Xc0, Xc1, Xc2, Xc3, Xcf⟩ := four X_7
  obtain ⟨Yc0, Yc1, Yc2, Yc3, Ycf⟩ := four Y_7
  obtain ⟨R2xc0, R2xc1, R2xc2, R2xc3, R2xcf⟩ := four R2x_7
  obtain ⟨R3xc0, R3xc1, R3xc2, R3xc3, R3xcf⟩ := four R3x_7
  obtain ⟨R4xc0, R4xc1, R4xc2, R4xc3, R4xcf⟩ := four R4x_7
  have Xl7 : w.heap.size < w7.heap.size := by omega
  have Yl7 : w.heap.size + 1 < w7.heap.size := by omega
  have R2xl7 : w2.heap.size < w7.heap.size := by omega
  have R3xl7 : w3.heap.size < w7.heap.size := by omega
  have R4xl7 : w4.heap.size < w7.heap.size := by omega
  go_wp2
  go_ret
  exact ⟨by first | rfl | simp, (by repeat (first | with_reducible assumption | with_reducible exact Below.refl _ _ | with_reducible refine Below.drew ?_ | with_reducible refine below_drewN ?_ _ | with_reducible refine below_alloc ?_ _ | with_reducible refine Below.alloc ?_ (by first | omega | (simp; done) | (simp; omega)) _ | with_reducible refine Below.setCell ?_ (by first | omega | (simp; done) | (simp; omega)) _))⟩
theorem vectorBack_any (a b c d a' b' c' d' : Int) (w : World) : Calls Try.prog 5 #[.agg #[.int .i64 a, .int .i64 b, .int .i64 c, .int .i64 d], .agg #[.int .i64 a', .int .i64 b', .int .i64 c', .int .i64 d']] w fun e w' => e = .returned (.bool true) ∧ Below w.heap.size w w' := by
  cases hx : formedB a b c d with
  | false => exact back_form1 a b c d a' b' c' d' w hx
  | true =>
    cases hy : formedB a' b' c' d' with
    | false => exact back_form2 a b c d a' b' c' d' w hx hy
    | true =>
      cases ho : formedB (a + a') (b + b') (c + c') (d + d') with
      | false => exact back_over a b c d a' b' c' d' w hx hy ho
      | true => exact back_ok a b c d a' b' c' d' w hx hy ho
end Go.Proofs.Ytcfjhmglifpdlaa
