/- The walk of VectorShares: every vector has in every other one the share that the reference has. No condition. -/
import Derived.Test.YtcfjhmglifpdlaaPShare
import Derived.Test.YtcfjhmglifpdlaaVec6
namespace Go.Proofs.Ytcfjhmglifpdlaa
open Go.RowKit
set_option maxHeartbeats 2000000 in
theorem vectorShares_any (a b c d a' b' c' d' wt : Int) (w : World) :
    Calls Try.prog 7 #[.agg #[.int .i64 a, .int .i64 b, .int .i64 c, .int .i64 d], .agg #[.int .i64 a', .int .i64 b', .int .i64 c', .int .i64 d'], .int .i64 wt] w fun e w' => e = .returned (.bool true) ∧ Below w.heap.size w w' := by
  obtain ⟨⟨⟨r0, r1⟩, r2⟩, hr⟩ : ∃ r, shareR a b c d a' b' c' d' wt = r := ⟨_, rfl⟩
  have hp : ∀ W, Calls Try.prog 22 #[.agg #[.int .i64 a, .int .i64 b, .int .i64 c, .int .i64 d], .agg #[.int .i64 a', .int .i64 b', .int .i64 c', .int .i64 d'], .int .i64 wt] W fun e w' => e = .returned (.tuple #[.agg #[.int .u64 r0, .int .u64 r1], .int .i64 r2]) ∧ Below W.heap.size W w' := fun W => by
    have h := share_any a b c d a' b' c' d' wt W
    rw [hr] at h; exact h
  have hq : ∀ W, Calls Try.prog 23 #[.agg #[.int .i64 a, .int .i64 b, .int .i64 c, .int .i64 d], .agg #[.int .i64 a', .int .i64 b', .int .i64 c', .int .i64 d'], .int .i64 wt] W fun e w' => e = .returned (.tuple #[.agg #[.int .u64 r0, .int .u64 r1], .int .i64 r2]) ∧ Below W.heap.size W w' := fun W => by
    have h := rshare_any a b c d a' b' c' d' wt W
    rw [hr] at h; exact h
  have HP := hid hp
  have HQ := hid hq
  clear hp hq hr
  go_enter Try.func7, Try.ntmps7
  go_wp2_with fail
  refine (awake_any _).mono ?_
  rintro e w1 ⟨rfl, hb1⟩
  have hs1 := hb1.size
  try simp only [World.size_alloc] at hs1
  have X_1 : w1.heap[w.heap.size]? = some (.cells #[.int .i64 a, .int .i64 b, .int .i64 c, .int .i64 d] 25 (0, 0)) := below_at hb1 (by first | omega | (simp; done) | (simp; omega)) (by (repeat (first | (with_reducible assumption) | (with_reducible exact alloc_at _ _) | ((with_reducible apply alloc_at'); (simp; done)) | (with_reducible apply alloc_at_lt) | (with_reducible apply heap_drew_at) | (with_reducible apply heap_drewN_at) | (with_reducible apply heap_setCell_same) | ((with_reducible apply heap_set_ne); (first | omega | (simp; done) | (simp; omega))))))
  have Y_1 : w1.heap[w.heap.size + 1]? = some (.cells #[.int .i64 a', .int .i64 b', .int .i64 c', .int .i64 d'] 25 (0, 0)) := below_at hb1 (by first | omega | (simp; done) | (simp; omega)) (by (repeat (first | (with_reducible assumption) | (with_reducible exact alloc_at _ _) | ((with_reducible apply alloc_at'); (simp; done)) | (with_reducible apply alloc_at_lt) | (with_reducible apply heap_drew_at) | (with_reducible apply heap_drewN_at) | (with_reducible apply heap_setCell_same) | ((with_reducible apply heap_set_ne); (first | omega | (simp; done) | (simp; omega))))))
  have B1 : Below w.heap.size w w1 := Below.trans (by repeat (first | with_reducible assumption | with_reducible exact Below.refl _ _ | with_reducible refine Below.drew ?_ | with_reducible refine below_drewN ?_ _ | with_reducible refine below_alloc ?_ _ | with_reducible refine Below.alloc ?_ (by first | omega | (simp; done) | (simp; omega)) _ | with_reducible refine Below.setCell ?_ (by first | omega | (simp; done) | (simp; omega)) _)) (hb1.mono (by first | omega | (simp; done) | (simp; omega)))
  clear hb1
  try clear Xc0 Xc1 Xcf
  try clear Xc2 Xc3
  try clear Yc0 Yc1 Ycf
  try clear Yc2 Yc3
  obtain ⟨Xc0, Xc1, Xc2, Xc3, Xcf⟩ := four X_1
  obtain ⟨Yc0, Yc1, Yc2, Yc3, Ycf⟩ := four Y_1
  have Xl1 : w.heap.size < w1.heap.size := by omega
  have Yl1 : w.heap.size + 1 < w1.heap.size := by omega
  go_wp2_with fail
  refine (HP.out _).mono ?_
  rintro e w2 ⟨rfl, hb2⟩
  have hs2 := hb2.size
  try simp only [World.size_alloc] at hs2
  have X_2 : w2.heap[w.heap.size]? = some (.cells #[.int .i64 a, .int .i64 b, .int .i64 c, .int .i64 d] 25 (0, 0)) := below_at hb2 (by first | omega | (simp; done) | (simp; omega)) (by (repeat (first | (with_reducible assumption) | (with_reducible exact alloc_at _ _) | ((with_reducible apply alloc_at'); (simp; done)) | (with_reducible apply alloc_at_lt) | (with_reducible apply heap_drew_at) | (with_reducible apply heap_drewN_at) | (with_reducible apply heap_setCell_same) | ((with_reducible apply heap_set_ne); (first | omega | (simp; done) | (simp; omega))))))
  have Y_2 : w2.heap[w.heap.size + 1]? = some (.cells #[.int .i64 a', .int .i64 b', .int .i64 c', .int .i64 d'] 25 (0, 0)) := below_at hb2 (by first | omega | (simp; done) | (simp; omega)) (by (repeat (first | (with_reducible assumption) | (with_reducible exact alloc_at _ _) | ((with_reducible apply alloc_at'); (simp; done)) | (with_reducible apply alloc_at_lt) | (with_reducible apply heap_drew_at) | (with_reducible apply heap_drewN_at) | (with_reducible apply heap_setCell_same) | ((with_reducible apply heap_set_ne); (first | omega | (simp; done) | (simp; omega))))))
  have B2 : Below w.heap.size w w2 := Below.trans (by repeat (first | with_reducible assumption | with_reducible exact Below.refl _ _ | with_reducible refine Below.drew ?_ | with_reducible refine below_drewN ?_ _ | with_reducible refine below_alloc ?_ _ | with_reducible refine Below.alloc ?_ (by first | omega | (simp; done) | (simp; omega)) _ | with_reducible refine Below.setCell ?_ (by first | omega | (simp; done) | (simp; omega)) _)) (hb2.mono (by first | omega | (simp; done) | (simp; omega)))
  clear hb2 X_1 Y_1
  try clear Xc0 Xc1 Xcf
  try clear Xc2 Xc3
  try clear Yc0 Yc1 Ycf
  try clear Yc2 Yc3
  obtain ⟨Xc0, Xc1, Xc2, Xc3, Xcf⟩ := four X_2
  obtain ⟨Yc0, Yc1, Yc2, Yc3, Ycf⟩ := four Y_2
  have Xl2 : w.heap.size < w2.heap.size := by omega
  have Yl2 : w.heap.size + 1 < w2.heap.size := by omega
  go_wp2_with fail
  refine (HQ.out _).mono ?_
  rintro e w3 ⟨rfl, hb3⟩
  have hs3 := hb3.size
  try simp only [World.size_alloc] at hs3
  have X_3 : w3.heap[w.heap.size]? = some (.cells #[.int .i64 a, .int .i64 b, .int .i64 c, .int .i64 d] 25 (0, 0)) := below_at hb3 (by first | omega | (simp; done) | (simp; omega)) (by (repeat (first | (with_reducible assumption) | (with_reducible exact alloc_at _ _) | ((with_reducible apply alloc_at'); (simp; done)) | (with_reducible apply alloc_at_lt) | (with_reducible apply heap_drew_at) | (with_reducible apply heap_drewN_at) | (with_reducible apply heap_setCell_same) | ((with_reducible apply heap_set_ne); (first | omega | (simp; done) | (simp; omega))))))
  have Y_3 : w3.heap[w.heap.size + 1]? = some (.cells #[.int .i64 a', .int .i64 b', .int .i64 c', .int .i64 d'] 25 (0, 0)) := below_at hb3 (by first | omega | (simp; done) | (simp; omega)) (by (repeat (first | (with_reducible assumption) | (with_reducible exact alloc_at _ _) | ((with_reducible apply alloc_at'); (simp; done)) | (with_reducible apply alloc_at_lt) | (with_reducible apply heap_drew_at) | (with_reducible apply heap_drewN_at) | (with_reducible apply heap_setCell_same) | ((with_reducible apply heap_set_ne); (first | omega | (simp; done) | (simp; omega))))))
  have R2x_3 : w3.heap[w2.heap.size]? = some (.cells #[.int .u64 r0, .int .u64 r1] 37 (0, 0)) := below_at hb3 (by first | omega | (simp; done) | (simp; omega)) (by (repeat (first | (with_reducible assumption) | (with_reducible exact alloc_at _ _) | ((with_reducible apply alloc_at'); (simp; done)) | (with_reducible apply alloc_at_lt) | (with_reducible apply heap_drew_at) | (with_reducible apply heap_drewN_at) | (with_reducible apply heap_setCell_same) | ((with_reducible apply heap_set_ne); (first | omega | (simp; done) | (simp; omega))))))
  have B3 : Below w.heap.size w w3 := Below.trans (by repeat (first | with_reducible assumption | with_reducible exact Below.refl _ _ | with_reducible refine Below.drew ?_ | with_reducible refine below_drewN ?_ _ | with_reducible refine below_alloc ?_ _ | with_reducible refine Below.alloc ?_ (by first | omega | (simp; done) | (simp; omega)) _ | with_reducible refine Below.setCell ?_ (by first | omega | (simp; done) | (simp; omega)) _)) (hb3.mono (by first | omega | (simp; done) | (simp; omega)))
  clear hb3 X_2 Y_2
  try clear Xc0 Xc1 Xcf
  try clear Xc2 Xc3
  try clear Yc0 Yc1 Ycf
  try clear Yc2 Yc3
  try clear R2xc0 R2xc1 R2xcf
  obtain ⟨Xc0, Xc1, Xc2, Xc3, Xcf⟩ := four X_3
  obtain ⟨Yc0, Yc1, Yc2, Yc3, Ycf⟩ := four Y_3
  obtain ⟨R2xc0, R2xc1, R2xcf⟩ := two R2x_3
  have Xl3 : w.heap.size < w3.heap.size := by omega
  have Yl3 : w.heap.size + 1 < w3.heap.size := by omega
  have R2xl3 : w2.heap.size < w3.heap.size := by omega
  go_wp2
  go_ret
  exact ⟨by first | rfl | simp, (by repeat (first | with_reducible assumption | with_reducible exact Below.refl _ _ | with_reducible refine Below.drew ?_ | with_reducible refine below_drewN ?_ _ | with_reducible refine below_alloc ?_ _ | with_reducible refine Below.alloc ?_ (by first | omega | (simp; done) | (simp; omega)) _ | with_reducible refine Below.setCell ?_ (by first | omega | (simp; done) | (simp; omega)) _))⟩
end Go.Proofs.Ytcfjhmglifpdlaa
