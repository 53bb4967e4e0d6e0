/- Walks of VectorGrows, one a case. -/
import Derived.Test.YtcfjhmglifpdlaaWShares
import Derived.Test.YtcfjhmglifpdlaaGrw
import Derived.Deep.DeepCutAuto
namespace Go.Proofs.Ytcfjhmglifpdlaa
open Go.RowKit
theorem lt_of_at {w : World} {n : Nat} {o : Obj} (h : w.heap[n]? = some o) : n < w.heap.size := by
  rcases Nat.lt_or_ge n w.heap.size with h' | h'
  · exact h'
  · rw [Array.getElem?_eq_none h'] at h; cases h
set_option maxRecDepth 100000 in
set_option maxHeartbeats 2000000 in
theorem grows_c1 (a b c d p q r s a' b' c' d' wt : Int) (w : World) (e0 e1 e2 e3 ne r0 r1 nf : Int) (hq : (ne != 0) = true) (HA : Hid (∀ W, Calls Try.prog 12 #[.agg #[.int .i64 a, .int .i64 b, .int .i64 c, .int .i64 d], .agg #[.int .i64 p, .int .i64 q, .int .i64 r, .int .i64 s]] W fun e w' => e = .returned (.tuple #[.agg #[.int .i64 e0, .int .i64 e1, .int .i64 e2, .int .i64 e3], .int .i64 ne]) ∧ Below W.heap.size W w')) (HP : Hid (∀ W, Calls Try.prog 22 #[.agg #[.int .i64 a, .int .i64 b, .int .i64 c, .int .i64 d], .agg #[.int .i64 a', .int .i64 b', .int .i64 c', .int .i64 d'], .int .i64 wt] W fun e w' => e = .returned (.tuple #[.agg #[.int .u64 r0, .int .u64 r1], .int .i64 nf]) ∧ Below W.heap.size W w')) :
    Calls Try.prog 8 #[.agg #[.int .i64 a, .int .i64 b, .int .i64 c, .int .i64 d, .int .i64 p, .int .i64 q, .int .i64 r, .int .i64 s, .int .i64 a', .int .i64 b', .int .i64 c', .int .i64 d'], .int .i64 wt] w fun e w' => e = .returned (.bool true) ∧ Below w.heap.size w w' := by
  go_enter Try.func8, Try.ntmps8
  go_upto_region 1 with fail
  obtain ⟨wo, hwo⟩ : ∃ wo : World, wo = w.alloc (.cells #[.int .i64 a, .int .i64 b, .int .i64 c, .int .i64 d, .int .i64 p, .int .i64 q, .int .i64 r, .int .i64 s, .int .i64 a', .int .i64 b', .int .i64 c', .int .i64 d'] 44) := ⟨_, rfl⟩
  rw [← hwo]
  have hT : wo.heap[w.heap.size]? = some (.cells #[.int .i64 a, .int .i64 b, .int .i64 c, .int .i64 d, .int .i64 p, .int .i64 q, .int .i64 r, .int .i64 s, .int .i64 a', .int .i64 b', .int .i64 c', .int .i64 d'] 44 (0, 0)) := by rw [hwo]; exact alloc_at _ _
  have hB0 : Below w.heap.size w wo := by rw [hwo]; exact (by repeat (first | with_reducible assumption | with_reducible exact Below.refl _ _ | with_reducible refine Below.drew ?_ | with_reducible refine below_drewN ?_ _ | with_reducible refine below_alloc ?_ _ | with_reducible refine Below.alloc ?_ (by first | omega | (simp; done) | (simp; omega)) _ | with_reducible refine Below.setCell ?_ (by first | omega | (simp; done) | (simp; omega)) _))
  have hs0 : w.heap.size < wo.heap.size := by rw [hwo]; simp
  have c0 := blk_cell hT 0
  have c1 := blk_cell hT 1
  have c2 := blk_cell hT 2
  have c3 := blk_cell hT 3
  have c4 := blk_cell hT 4
  have c5 := blk_cell hT 5
  have c6 := blk_cell hT 6
  have c7 := blk_cell hT 7
  have c8 := blk_cell hT 8
  have c9 := blk_cell hT 9
  have c10 := blk_cell hT 10
  have c11 := blk_cell hT 11
  simp at c0 c1 c2 c3 c4 c5 c6 c7 c8 c9 c10 c11
  clear hwo hT
  go_cut [5, 6, 7] (fun s5 s6 s7 wx => ∃ x y z : Nat, s5 = .pointer (some ⟨x, 0, none⟩) ∧ s6 = .pointer (some ⟨y, 0, none⟩) ∧ s7 = .pointer (some ⟨z, 0, none⟩) ∧ Below w.heap.size w wx ∧
    wx.heap[x]? = some (.cells #[.int .i64 a, .int .i64 b, .int .i64 c, .int .i64 d] 25 (0, 0)) ∧ wx.heap[y]? = some (.cells #[.int .i64 p, .int .i64 q, .int .i64 r, .int .i64 s] 25 (0, 0)) ∧ wx.heap[z]? = some (.cells #[.int .i64 a', .int .i64 b', .int .i64 c', .int .i64 d'] 25 (0, 0)))
  case first =>
    go_region_held3 (fun w' => Below wo.heap.size wo w' ∧ (∀ b o, b < wo.heap.size → w'.cell? ⟨b, o, none⟩ = wo.cell? ⟨b, o, none⟩) ∧ ∀ b o, b < wo.heap.size → w'.frozen? ⟨b, o, none⟩ = wo.frozen? ⟨b, o, none⟩) (first | ((try go_split_ands); (try dsimp only); refine same_of ?_; (repeat (first | with_reducible assumption | with_reducible exact Below.refl _ _ | with_reducible refine Below.drew ?_ | with_reducible refine below_drewN ?_ _ | with_reducible refine below_alloc ?_ _ | with_reducible refine Below.alloc ?_ (by first | omega | (simp; done) | (simp; omega)) _ | with_reducible refine Below.setCell ?_ (by first | omega | (simp; done) | (simp; omega)) _)); done)) (fail)
    all_goals (go_wp2_with fail; go_meet; exact ⟨_, _, _, rfl, rfl, rfl, (by repeat (first | with_reducible assumption | with_reducible exact Below.refl _ _ | with_reducible refine Below.drew ?_ | with_reducible refine below_drewN ?_ _ | with_reducible refine below_alloc ?_ _ | with_reducible refine Below.alloc ?_ (by first | omega | (simp; done) | (simp; omega)) _ | with_reducible refine Below.setCell ?_ (by first | omega | (simp; done) | (simp; omega)) _)), (by (repeat (first | (with_reducible assumption) | (with_reducible exact alloc_at _ _) | ((with_reducible apply alloc_at'); (simp; done)) | (with_reducible apply alloc_at_lt) | (with_reducible apply heap_drew_at) | (with_reducible apply heap_drewN_at) | (with_reducible apply heap_setCell_same) | ((with_reducible apply heap_set_ne); (first | omega | (simp; done) | (simp; omega)))))), (by (repeat (first | (with_reducible assumption) | (with_reducible exact alloc_at _ _) | ((with_reducible apply alloc_at'); (simp; done)) | (with_reducible apply alloc_at_lt) | (with_reducible apply heap_drew_at) | (with_reducible apply heap_drewN_at) | (with_reducible apply heap_setCell_same) | ((with_reducible apply heap_set_ne); (first | omega | (simp; done) | (simp; omega)))))), (by (repeat (first | (with_reducible assumption) | (with_reducible exact alloc_at _ _) | ((with_reducible apply alloc_at'); (simp; done)) | (with_reducible apply alloc_at_lt) | (with_reducible apply heap_drew_at) | (with_reducible apply heap_drewN_at) | (with_reducible apply heap_setCell_same) | ((with_reducible apply heap_set_ne); (first | omega | (simp; done) | (simp; omega))))))⟩)
  case rest =>
    obtain ⟨x, y, z, rfl, rfl, rfl, hB, hX, hY, hZ⟩ := hcut
    clear c0 c1 c2 c3 c4 c5 c6 c7 c8 c9 c10 c11 hB0 hs0 wo
    have hx := lt_of_at hX
    have hy := lt_of_at hY
    have hz := lt_of_at hZ
    have hsz := hB.size
    go_wp2_with fail
    refine (awake_any _).mono ?_
    rintro e w1 ⟨rfl, hb1⟩
    have hs1 := hb1.size
    try simp only [World.size_alloc] at hs1
    have X_1 : w1.heap[x]? = some (.cells #[.int .i64 a, .int .i64 b, .int .i64 c, .int .i64 d] 25 (0, 0)) := below_at hb1 (by first | omega | (simp; done) | (simp; omega)) (by (repeat (first | (with_reducible assumption) | (with_reducible exact alloc_at _ _) | ((with_reducible apply alloc_at'); (simp; done)) | (with_reducible apply alloc_at_lt) | (with_reducible apply heap_drew_at) | (with_reducible apply heap_drewN_at) | (with_reducible apply heap_setCell_same) | ((with_reducible apply heap_set_ne); (first | omega | (simp; done) | (simp; omega))))))
    have Y_1 : w1.heap[y]? = some (.cells #[.int .i64 p, .int .i64 q, .int .i64 r, .int .i64 s] 25 (0, 0)) := below_at hb1 (by first | omega | (simp; done) | (simp; omega)) (by (repeat (first | (with_reducible assumption) | (with_reducible exact alloc_at _ _) | ((with_reducible apply alloc_at'); (simp; done)) | (with_reducible apply alloc_at_lt) | (with_reducible apply heap_drew_at) | (with_reducible apply heap_drewN_at) | (with_reducible apply heap_setCell_same) | ((with_reducible apply heap_set_ne); (first | omega | (simp; done) | (simp; omega))))))
    have Z_1 : w1.heap[z]? = some (.cells #[.int .i64 a', .int .i64 b', .int .i64 c', .int .i64 d'] 25 (0, 0)) := below_at hb1 (by first | omega | (simp; done) | (simp; omega)) (by (repeat (first | (with_reducible assumption) | (with_reducible exact alloc_at _ _) | ((with_reducible apply alloc_at'); (simp; done)) | (with_reducible apply alloc_at_lt) | (with_reducible apply heap_drew_at) | (with_reducible apply heap_drewN_at) | (with_reducible apply heap_setCell_same) | ((with_reducible apply heap_set_ne); (first | omega | (simp; done) | (simp; omega))))))
    have B1 : Below w.heap.size w w1 := Below.trans (by repeat (first | with_reducible assumption | with_reducible exact Below.refl _ _ | with_reducible refine Below.drew ?_ | with_reducible refine below_drewN ?_ _ | with_reducible refine below_alloc ?_ _ | with_reducible refine Below.alloc ?_ (by first | omega | (simp; done) | (simp; omega)) _ | with_reducible refine Below.setCell ?_ (by first | omega | (simp; done) | (simp; omega)) _)) (hb1.mono (by first | omega | (simp; done) | (simp; omega)))
    clear hb1
    try clear Xc0 Xc1 Xcf
    try clear Xc2 Xc3
    try clear Yc0 Yc1 Ycf
    try clear Yc2 Yc3
    try clear Zc0 Zc1 Zcf
    try clear Zc2 Zc3
    obtain ⟨Xc0, Xc1, Xc2, Xc3, Xcf⟩ := four X_1
    obtain ⟨Yc0, Yc1, Yc2, Yc3, Ycf⟩ := four Y_1
    obtain ⟨Zc0, Zc1, Zc2, Zc3, Zcf⟩ := four Z_1
    have Xl1 : x < w1.heap.size := by omega
    have Yl1 : y < w1.heap.size := by omega
    have Zl1 : z < w1.heap.size := by omega
    go_wp2_with fail
    refine (HA.out _).mono ?_
    rintro e w2 ⟨rfl, hb2⟩
    have hs2 := hb2.size
    try simp only [World.size_alloc] at hs2
    have X_2 : w2.heap[x]? = some (.cells #[.int .i64 a, .int .i64 b, .int .i64 c, .int .i64 d] 25 (0, 0)) := below_at hb2 (by first | omega | (simp; done) | (simp; omega)) (by (repeat (first | (with_reducible assumption) | (with_reducible exact alloc_at _ _) | ((with_reducible apply alloc_at'); (simp; done)) | (with_reducible apply alloc_at_lt) | (with_reducible apply heap_drew_at) | (with_reducible apply heap_drewN_at) | (with_reducible apply heap_setCell_same) | ((with_reducible apply heap_set_ne); (first | omega | (simp; done) | (simp; omega))))))
    have Y_2 : w2.heap[y]? = some (.cells #[.int .i64 p, .int .i64 q, .int .i64 r, .int .i64 s] 25 (0, 0)) := below_at hb2 (by first | omega | (simp; done) | (simp; omega)) (by (repeat (first | (with_reducible assumption) | (with_reducible exact alloc_at _ _) | ((with_reducible apply alloc_at'); (simp; done)) | (with_reducible apply alloc_at_lt) | (with_reducible apply heap_drew_at) | (with_reducible apply heap_drewN_at) | (with_reducible apply heap_setCell_same) | ((with_reducible apply heap_set_ne); (first | omega | (simp; done) | (simp; omega))))))
    have Z_2 : w2.heap[z]? = some (.cells #[.int .i64 a', .int .i64 b', .int .i64 c', .int .i64 d'] 25 (0, 0)) := below_at hb2 (by first | omega | (simp; done) | (simp; omega)) (by (repeat (first | (with_reducible assumption) | (with_reducible exact alloc_at _ _) | ((with_reducible apply alloc_at'); (simp; done)) | (with_reducible apply alloc_at_lt) | (with_reducible apply heap_drew_at) | (with_reducible apply heap_drewN_at) | (with_reducible apply heap_setCell_same) | ((with_reducible apply heap_set_ne); (first | omega | (simp; done) | (simp; omega))))))
    have B2 : Below w.heap.size w w2 := Below.trans (by repeat (first | with_reducible assumption | with_reducible exact Below.refl _ _ | with_reducible refine Below.drew ?_ | with_reducible refine below_drewN ?_ _ | with_reducible refine below_alloc ?_ _ | with_reducible refine Below.alloc ?_ (by first | omega | (simp; done) | (simp; omega)) _ | with_reducible refine Below.setCell ?_ (by first | omega | (simp; done) | (simp; omega)) _)) (hb2.mono (by first | omega | (simp; done) | (simp; omega)))
    clear hb2 X_1 Y_1 Z_1
    try clear Xc0 Xc1 Xcf
    try clear Xc2 Xc3
    try clear Yc0 Yc1 Ycf
    try clear Yc2 Yc3
    try clear Zc0 Zc1 Zcf
    try clear Zc2 Zc3
    obtain ⟨Xc0, Xc1, Xc2, Xc3, Xcf⟩ := four X_2
    obtain ⟨Yc0, Yc1, Yc2, Yc3, Ycf⟩ := four Y_2
    obtain ⟨Zc0, Zc1, Zc2, Zc3, Zcf⟩ := four Z_2
    have Xl2 : x < w2.heap.size := by omega
    have Yl2 : y < w2.heap.size := by omega
    have Zl2 : z < w2.heap.size := by omega
    go_wp2_with fail
    refine (HP.out _).mono ?_
    rintro e w3 ⟨rfl, hb3⟩
    have hs3 := hb3.size
    try simp only [World.size_alloc] at hs3
    have X_3 : w3.heap[x]? = some (.cells #[.int .i64 a, .int .i64 b, .int .i64 c, .int .i64 d] 25 (0, 0)) := below_at hb3 (by first | omega | (simp; done) | (simp; omega)) (by (repeat (first | (with_reducible assumption) | (with_reducible exact alloc_at _ _) | ((with_reducible apply alloc_at'); (simp; done)) | (with_reducible apply alloc_at_lt) | (with_reducible apply heap_drew_at) | (with_reducible apply heap_drewN_at) | (with_reducible apply heap_setCell_same) | ((with_reducible apply heap_set_ne); (first | omega | (simp; done) | (simp; omega))))))
    have Y_3 : w3.heap[y]? = some (.cells #[.int .i64 p, .int .i64 q, .int .i64 r, .int .i64 s] 25 (0, 0)) := below_at hb3 (by first | omega | (simp; done) | (simp; omega)) (by (repeat (first | (with_reducible assumption) | (with_reducible exact alloc_at _ _) | ((with_reducible apply alloc_at'); (simp; done)) | (with_reducible apply alloc_at_lt) | (with_reducible apply heap_drew_at) | (with_reducible apply heap_drewN_at) | (with_reducible apply heap_setCell_same) | ((with_reducible apply heap_set_ne); (first | omega | (simp; done) | (simp; omega))))))
    have Z_3 : w3.heap[z]? = some (.cells #[.int .i64 a', .int .i64 b', .int .i64 c', .int .i64 d'] 25 (0, 0)) := below_at hb3 (by first | omega | (simp; done) | (simp; omega)) (by (repeat (first | (with_reducible assumption) | (with_reducible exact alloc_at _ _) | ((with_reducible apply alloc_at'); (simp; done)) | (with_reducible apply alloc_at_lt) | (with_reducible apply heap_drew_at) | (with_reducible apply heap_drewN_at) | (with_reducible apply heap_setCell_same) | ((with_reducible apply heap_set_ne); (first | omega | (simp; done) | (simp; omega))))))
    have R2x_3 : w3.heap[w2.heap.size]? = some (.cells #[.int .i64 e0, .int .i64 e1, .int .i64 e2, .int .i64 e3] 25 (0, 0)) := below_at hb3 (by first | omega | (simp; done) | (simp; omega)) (by (repeat (first | (with_reducible assumption) | (with_reducible exact alloc_at _ _) | ((with_reducible apply alloc_at'); (simp; done)) | (with_reducible apply alloc_at_lt) | (with_reducible apply heap_drew_at) | (with_reducible apply heap_drewN_at) | (with_reducible apply heap_setCell_same) | ((with_reducible apply heap_set_ne); (first | omega | (simp; done) | (simp; omega))))))
    have B3 : Below w.heap.size w w3 := Below.trans (by repeat (first | with_reducible assumption | with_reducible exact Below.refl _ _ | with_reducible refine Below.drew ?_ | with_reducible refine below_drewN ?_ _ | with_reducible refine below_alloc ?_ _ | with_reducible refine Below.alloc ?_ (by first | omega | (simp; done) | (simp; omega)) _ | with_reducible refine Below.setCell ?_ (by first | omega | (simp; done) | (simp; omega)) _)) (hb3.mono (by first | omega | (simp; done) | (simp; omega)))
    clear hb3 X_2 Y_2 Z_2
    try clear Xc0 Xc1 Xcf
    try clear Xc2 Xc3
    try clear Yc0 Yc1 Ycf
    try clear Yc2 Yc3
    try clear Zc0 Zc1 Zcf
    try clear Zc2 Zc3
    try clear R2xc0 R2xc1 R2xcf
    try clear R2xc2 R2xc3
    obtain ⟨Xc0, Xc1, Xc2, Xc3, Xcf⟩ := four X_3
    obtain ⟨Yc0, Yc1, Yc2, Yc3, Ycf⟩ := four Y_3
    obtain ⟨Zc0, Zc1, Zc2, Zc3, Zcf⟩ := four Z_3
    obtain ⟨R2xc0, R2xc1, R2xc2, R2xc3, R2xcf⟩ := four R2x_3
    have Xl3 : x < w3.heap.size := by omega
    have Yl3 : y < w3.heap.size := by omega
    have Zl3 : z < w3.heap.size := by omega
    have R2xl3 : w2.heap.size < w3.heap.size := by omega
    go_wp2
    go_ret
    exact ⟨by first | rfl | simp, (by repeat (first | with_reducible assumption | with_reducible exact Below.refl _ _ | with_reducible refine Below.drew ?_ | with_reducible refine below_drewN ?_ _ | with_reducible refine below_alloc ?_ _ | with_reducible refine Below.alloc ?_ (by first | omega | (simp; done) | (simp; omega)) _ | with_reducible refine Below.setCell ?_ (by first | omega | (simp; done) | (simp; omega)) _))⟩
set_option maxRecDepth 100000 in
set_option maxHeartbeats 2000000 in
theorem grows_c2 (a b c d p q r s a' b' c' d' wt : Int) (w : World) (e0 e1 e2 e3 r0 r1 nf : Int) (hq : (nf != 0) = true) (HA : Hid (∀ W, Calls Try.prog 12 #[.agg #[.int .i64 a, .int .i64 b, .int .i64 c, .int .i64 d], .agg #[.int .i64 p, .int .i64 q, .int .i64 r, .int .i64 s]] W fun e w' => e = .returned (.tuple #[.agg #[.int .i64 e0, .int .i64 e1, .int .i64 e2, .int .i64 e3], .int .i64 0]) ∧ Below W.heap.size W w')) (HP : Hid (∀ W, Calls Try.prog 22 #[.agg #[.int .i64 a, .int .i64 b, .int .i64 c, .int .i64 d], .agg #[.int .i64 a', .int .i64 b', .int .i64 c', .int .i64 d'], .int .i64 wt] W fun e w' => e = .returned (.tuple #[.agg #[.int .u64 r0, .int .u64 r1], .int .i64 nf]) ∧ Below W.heap.size W w')) :
    Calls Try.prog 8 #[.agg #[.int .i64 a, .int .i64 b, .int .i64 c, .int .i64 d, .int .i64 p, .int .i64 q, .int .i64 r, .int .i64 s, .int .i64 a', .int .i64 b', .int .i64 c', .int .i64 d'], .int .i64 wt] w fun e w' => e = .returned (.bool true) ∧ Below w.heap.size w w' := by
  go_enter Try.func8, Try.ntmps8
  go_upto_region 1 with fail
  obtain ⟨wo, hwo⟩ : ∃ wo : World, wo = w.alloc (.cells #[.int .i64 a, .int .i64 b, .int .i64 c, .int .i64 d, .int .i64 p, .int .i64 q, .int .i64 r, .int .i64 s, .int .i64 a', .int .i64 b', .int .i64 c', .int .i64 d'] 44) := ⟨_, rfl⟩
  rw [← hwo]
  have hT : wo.heap[w.heap.size]? = some (.cells #[.int .i64 a, .int .i64 b, .int .i64 c, .int .i64 d, .int .i64 p, .int .i64 q, .int .i64 r, .int .i64 s, .int .i64 a', .int .i64 b', .int .i64 c', .int .i64 d'] 44 (0, 0)) := by rw [hwo]; exact alloc_at _ _
  have hB0 : Below w.heap.size w wo := by rw [hwo]; exact (by repeat (first | with_reducible assumption | with_reducible exact Below.refl _ _ | with_reducible refine Below.drew ?_ | with_reducible refine below_drewN ?_ _ | with_reducible refine below_alloc ?_ _ | with_reducible refine Below.alloc ?_ (by first | omega | (simp; done) | (simp; omega)) _ | with_reducible refine Below.setCell ?_ (by first | omega | (simp; done) | (simp; omega)) _))
  have hs0 : w.heap.size < wo.heap.size := by rw [hwo]; simp
  have c0 := blk_cell hT 0
  have c1 := blk_cell hT 1
  have c2 := blk_cell hT 2
  have c3 := blk_cell hT 3
  have c4 := blk_cell hT 4
  have c5 := blk_cell hT 5
  have c6 := blk_cell hT 6
  have c7 := blk_cell hT 7
  have c8 := blk_cell hT 8
  have c9 := blk_cell hT 9
  have c10 := blk_cell hT 10
  have c11 := blk_cell hT 11
  simp at c0 c1 c2 c3 c4 c5 c6 c7 c8 c9 c10 c11
  clear hwo hT
  go_cut [5, 6, 7] (fun s5 s6 s7 wx => ∃ x y z : Nat, s5 = .pointer (some ⟨x, 0, none⟩) ∧ s6 = .pointer (some ⟨y, 0, none⟩) ∧ s7 = .pointer (some ⟨z, 0, none⟩) ∧ Below w.heap.size w wx ∧
    wx.heap[x]? = some (.cells #[.int .i64 a, .int .i64 b, .int .i64 c, .int .i64 d] 25 (0, 0)) ∧ wx.heap[y]? = some (.cells #[.int .i64 p, .int .i64 q, .int .i64 r, .int .i64 s] 25 (0, 0)) ∧ wx.heap[z]? = some (.cells #[.int .i64 a', .int .i64 b', .int .i64 c', .int .i64 d'] 25 (0, 0)))
  case first =>
    go_region_held3 (fun w' => Below wo.heap.size wo w' ∧ (∀ b o, b < wo.heap.size → w'.cell? ⟨b, o, none⟩ = wo.cell? ⟨b, o, none⟩) ∧ ∀ b o, b < wo.heap.size → w'.frozen? ⟨b, o, none⟩ = wo.frozen? ⟨b, o, none⟩) (first | ((try go_split_ands); (try dsimp only); refine same_of ?_; (repeat (first | with_reducible assumption | with_reducible exact Below.refl _ _ | with_reducible refine Below.drew ?_ | with_reducible refine below_drewN ?_ _ | with_reducible refine below_alloc ?_ _ | with_reducible refine Below.alloc ?_ (by first | omega | (simp; done) | (simp; omega)) _ | with_reducible refine Below.setCell ?_ (by first | omega | (simp; done) | (simp; omega)) _)); done)) (fail)
    all_goals (go_wp2_with fail; go_meet; exact ⟨_, _, _, rfl, rfl, rfl, (by repeat (first | with_reducible assumption | with_reducible exact Below.refl _ _ | with_reducible refine Below.drew ?_ | with_reducible refine below_drewN ?_ _ | with_reducible refine below_alloc ?_ _ | with_reducible refine Below.alloc ?_ (by first | omega | (simp; done) | (simp; omega)) _ | with_reducible refine Below.setCell ?_ (by first | omega | (simp; done) | (simp; omega)) _)), (by (repeat (first | (with_reducible assumption) | (with_reducible exact alloc_at _ _) | ((with_reducible apply alloc_at'); (simp; done)) | (with_reducible apply alloc_at_lt) | (with_reducible apply heap_drew_at) | (with_reducible apply heap_drewN_at) | (with_reducible apply heap_setCell_same) | ((with_reducible apply heap_set_ne); (first | omega | (simp; done) | (simp; omega)))))), (by (repeat (first | (with_reducible assumption) | (with_reducible exact alloc_at _ _) | ((with_reducible apply alloc_at'); (simp; done)) | (with_reducible apply alloc_at_lt) | (with_reducible apply heap_drew_at) | (with_reducible apply heap_drewN_at) | (with_reducible apply heap_setCell_same) | ((with_reducible apply heap_set_ne); (first | omega | (simp; done) | (simp; omega)))))), (by (repeat (first | (with_reducible assumption) | (with_reducible exact alloc_at _ _) | ((with_reducible apply alloc_at'); (simp; done)) | (with_reducible apply alloc_at_lt) | (with_reducible apply heap_drew_at) | (with_reducible apply heap_drewN_at) | (with_reducible apply heap_setCell_same) | ((with_reducible apply heap_set_ne); (first | omega | (simp; done) | (simp; omega))))))⟩)
  case rest =>
    obtain ⟨x, y, z, rfl, rfl, rfl, hB, hX, hY, hZ⟩ := hcut
    clear c0 c1 c2 c3 c4 c5 c6 c7 c8 c9 c10 c11 hB0 hs0 wo
    have hx := lt_of_at hX
    have hy := lt_of_at hY
    have hz := lt_of_at hZ
    have hsz := hB.size
    go_wp2_with fail
    refine (awake_any _).mono ?_
    rintro e w1 ⟨rfl, hb1⟩
    have hs1 := hb1.size
    try simp only [World.size_alloc] at hs1
    have X_1 : w1.heap[x]? = some (.cells #[.int .i64 a, .int .i64 b, .int .i64 c, .int .i64 d] 25 (0, 0)) := below_at hb1 (by first | omega | (simp; done) | (simp; omega)) (by (repeat (first | (with_reducible assumption) | (with_reducible exact alloc_at _ _) | ((with_reducible apply alloc_at'); (simp; done)) | (with_reducible apply alloc_at_lt) | (with_reducible apply heap_drew_at) | (with_reducible apply heap_drewN_at) | (with_reducible apply heap_setCell_same) | ((with_reducible apply heap_set_ne); (first | omega | (simp; done) | (simp; omega))))))
    have Y_1 : w1.heap[y]? = some (.cells #[.int .i64 p, .int .i64 q, .int .i64 r, .int .i64 s] 25 (0, 0)) := below_at hb1 (by first | omega | (simp; done) | (simp; omega)) (by (repeat (first | (with_reducible assumption) | (with_reducible exact alloc_at _ _) | ((with_reducible apply alloc_at'); (simp; done)) | (with_reducible apply alloc_at_lt) | (with_reducible apply heap_drew_at) | (with_reducible apply heap_drewN_at) | (with_reducible apply heap_setCell_same) | ((with_reducible apply heap_set_ne); (first | omega | (simp; done) | (simp; omega))))))
    have Z_1 : w1.heap[z]? = some (.cells #[.int .i64 a', .int .i64 b', .int .i64 c', .int .i64 d'] 25 (0, 0)) := below_at hb1 (by first | omega | (simp; done) | (simp; omega)) (by (repeat (first | (with_reducible assumption) | (with_reducible exact alloc_at _ _) | ((with_reducible apply alloc_at'); (simp; done)) | (with_reducible apply alloc_at_lt) | (with_reducible apply heap_drew_at) | (with_reducible apply heap_drewN_at) | (with_reducible apply heap_setCell_same) | ((with_reducible apply heap_set_ne); (first | omega | (simp; done) | (simp; omega))))))
    have B1 : Below w.heap.size w w1 := Below.trans (by repeat (first | with_reducible assumption | with_reducible exact Below.refl _ _ | with_reducible refine Below.drew ?_ | with_reducible refine below_drewN ?_ _ | with_reducible refine below_alloc ?_ _ | with_reducible refine Below.alloc ?_ (by first | omega | (simp; done) | (simp; omega)) _ | with_reducible refine Below.setCell ?_ (by first | omega | (simp; done) | (simp; omega)) _)) (hb1.mono (by first | omega | (simp; done) | (simp; omega)))
    clear hb1
    try clear Xc0 Xc1 Xcf
    try clear Xc2 Xc3
    try clear Yc0 Yc1 Ycf
    try clear Yc2 Yc3
    try clear Zc0 Zc1 Zcf
    try clear Zc2 Zc3
    obtain ⟨Xc0, Xc1, Xc2, Xc3, Xcf⟩ := four X_1
    obtain ⟨Yc0, Yc1, Yc2, Yc3, Ycf⟩ := four Y_1
    obtain ⟨Zc0, Zc1, Zc2, Zc3, Zcf⟩ := four Z_1
    have Xl1 : x < w1.heap.size := by omega
    have Yl1 : y < w1.heap.size := by omega
    have Zl1 : z < w1.heap.size := by omega
    go_wp2_with fail
    refine (HA.out _).mono ?_
    rintro e w2 ⟨rfl, hb2⟩
    have hs2 := hb2.size
    try simp only [World.size_alloc] at hs2
    have X_2 : w2.heap[x]? = some (.cells #[.int .i64 a, .int .i64 b, .int .i64 c, .int .i64 d] 25 (0, 0)) := below_at hb2 (by first | omega | (simp; done) | (simp; omega)) (by (repeat (first | (with_reducible assumption) | (with_reducible exact alloc_at _ _) | ((with_reducible apply alloc_at'); (simp; done)) | (with_reducible apply alloc_at_lt) | (with_reducible apply heap_drew_at) | (with_reducible apply heap_drewN_at) | (with_reducible apply heap_setCell_same) | ((with_reducible apply heap_set_ne); (first | omega | (simp; done) | (simp; omega))))))
    have Y_2 : w2.heap[y]? = some (.cells #[.int .i64 p, .int .i64 q, .int .i64 r, .int .i64 s] 25 (0, 0)) := below_at hb2 (by first | omega | (simp; done) | (simp; omega)) (by (repeat (first | (with_reducible assumption) | (with_reducible exact alloc_at _ _) | ((with_reducible apply alloc_at'); (simp; done)) | (with_reducible apply alloc_at_lt) | (with_reducible apply heap_drew_at) | (with_reducible apply heap_drewN_at) | (with_reducible apply heap_setCell_same) | ((with_reducible apply heap_set_ne); (first | omega | (simp; done) | (simp; omega))))))
    have Z_2 : w2.heap[z]? = some (.cells #[.int .i64 a', .int .i64 b', .int .i64 c', .int .i64 d'] 25 (0, 0)) := below_at hb2 (by first | omega | (simp; done) | (simp; omega)) (by (repeat (first | (with_reducible assumption) | (with_reducible exact alloc_at _ _) | ((with_reducible apply alloc_at'); (simp; done)) | (with_reducible apply alloc_at_lt) | (with_reducible apply heap_drew_at) | (with_reducible apply heap_drewN_at) | (with_reducible apply heap_setCell_same) | ((with_reducible apply heap_set_ne); (first | omega | (simp; done) | (simp; omega))))))
    have B2 : Below w.heap.size w w2 := Below.trans (by repeat (first | with_reducible assumption | with_reducible exact Below.refl _ _ | with_reducible refine Below.drew ?_ | with_reducible refine below_drewN ?_ _ | with_reducible refine below_alloc ?_ _ | with_reducible refine Below.alloc ?_ (by first | omega | (simp; done) | (simp; omega)) _ | with_reducible refine Below.setCell ?_ (by first | omega | (simp; done) | (simp; omega)) _)) (hb2.mono (by first | omega | (simp; done) | (simp; omega)))
    clear hb2 X_1 Y_1 Z_1
    try clear Xc0 Xc1 Xcf
    try clear Xc2 Xc3
    try clear Yc0 Yc1 Ycf
    try clear Yc2 Yc3
    try clear Zc0 Zc1 Zcf
    try clear Zc2 Zc3
    obtain ⟨Xc0, Xc1, Xc2, Xc3, Xcf⟩ := four X_2
    obtain ⟨Yc0, Yc1, Yc2, Yc3, Ycf⟩ := four Y_2
    obtain ⟨Zc0, Zc1, Zc2, Zc3, Zcf⟩ := four Z_2
    have Xl2 : x < w2.heap.size := by omega
    have Yl2 : y < w2.heap.size := by omega
    have Zl2 : z < w2.heap.size := by omega
    go_wp2_with fail
    refine (HP.out _).mono ?_
    rintro e w3 ⟨rfl, hb3⟩
    have hs3 := hb3.size
    try simp only [World.size_alloc] at hs3
    have X_3 : w3.heap[x]? = some (.cells #[.int .i64 a, .int .i64 b, .int .i64 c, .int .i64 d] 25 (0, 0)) := below_at hb3 (by first | omega | (simp; done) | (simp; omega)) (by (repeat (first | (with_reducible assumption) | (with_reducible exact alloc_at _ _) | ((with_reducible apply alloc_at'); (simp; done)) | (with_reducible apply alloc_at_lt) | (with_reducible apply heap_drew_at) | (with_reducible apply heap_drewN_at) | (with_reducible apply heap_setCell_same) | ((with_reducible apply heap_set_ne); (first | omega | (simp; done) | (simp; omega))))))
    have Y_3 : w3.heap[y]? = some (.cells #[.int .i64 p, .int .i64 q, .int .i64 r, .int .i64 s] 25 (0, 0)) := below_at hb3 (by first | omega | (simp; done) | (simp; omega)) (by (repeat (first | (with_reducible assumption) | (with_reducible exact alloc_at _ _) | ((with_reducible apply alloc_at'); (simp; done)) | (with_reducible apply alloc_at_lt) | (with_reducible apply heap_drew_at) | (with_reducible apply heap_drewN_at) | (with_reducible apply heap_setCell_same) | ((with_reducible apply heap_set_ne); (first | omega | (simp; done) | (simp; omega))))))
    have Z_3 : w3.heap[z]? = some (.cells #[.int .i64 a', .int .i64 b', .int .i64 c', .int .i64 d'] 25 (0, 0)) := below_at hb3 (by first | omega | (simp; done) | (simp; omega)) (by (repeat (first | (with_reducible assumption) | (with_reducible exact alloc_at _ _) | ((with_reducible apply alloc_at'); (simp; done)) | (with_reducible apply alloc_at_lt) | (with_reducible apply heap_drew_at) | (with_reducible apply heap_drewN_at) | (with_reducible apply heap_setCell_same) | ((with_reducible apply heap_set_ne); (first | omega | (simp; done) | (simp; omega))))))
    have R2x_3 : w3.heap[w2.heap.size]? = some (.cells #[.int .i64 e0, .int .i64 e1, .int .i64 e2, .int .i64 e3] 25 (0, 0)) := below_at hb3 (by first | omega | (simp; done) | (simp; omega)) (by (repeat (first | (with_reducible assumption) | (with_reducible exact alloc_at _ _) | ((with_reducible apply alloc_at'); (simp; done)) | (with_reducible apply alloc_at_lt) | (with_reducible apply heap_drew_at) | (with_reducible apply heap_drewN_at) | (with_reducible apply heap_setCell_same) | ((with_reducible apply heap_set_ne); (first | omega | (simp; done) | (simp; omega))))))
    have B3 : Below w.heap.size w w3 := Below.trans (by repeat (first | with_reducible assumption | with_reducible exact Below.refl _ _ | with_reducible refine Below.drew ?_ | with_reducible refine below_drewN ?_ _ | with_reducible refine below_alloc ?_ _ | with_reducible refine Below.alloc ?_ (by first | omega | (simp; done) | (simp; omega)) _ | with_reducible refine Below.setCell ?_ (by first | omega | (simp; done) | (simp; omega)) _)) (hb3.mono (by first | omega | (simp; done) | (simp; omega)))
    clear hb3 X_2 Y_2 Z_2
    try clear Xc0 Xc1 Xcf
    try clear Xc2 Xc3
    try clear Yc0 Yc1 Ycf
    try clear Yc2 Yc3
    try clear Zc0 Zc1 Zcf
    try clear Zc2 Zc3
    try clear R2xc0 R2xc1 R2xcf
    try clear R2xc2 R2xc3
    obtain ⟨Xc0, Xc1, Xc2, Xc3, Xcf⟩ := four X_3
    obtain ⟨Yc0, Yc1, Yc2, Yc3, Ycf⟩ := four Y_3
    obtain ⟨Zc0, Zc1, Zc2, Zc3, Zcf⟩ := four Z_3
    obtain ⟨R2xc0, R2xc1, R2xc2, R2xc3, R2xcf⟩ := four R2x_3
    have Xl3 : x < w3.heap.size := by omega
    have Yl3 : y < w3.heap.size := by omega
    have Zl3 : z < w3.heap.size := by omega
    have R2xl3 : w2.heap.size < w3.heap.size := by omega
    go_wp2
    go_ret
    exact ⟨by first | rfl | simp, (by repeat (first | with_reducible assumption | with_reducible exact Below.refl _ _ | with_reducible refine Below.drew ?_ | with_reducible refine below_drewN ?_ _ | with_reducible refine below_alloc ?_ _ | with_reducible refine Below.alloc ?_ (by first | omega | (simp; done) | (simp; omega)) _ | with_reducible refine Below.setCell ?_ (by first | omega | (simp; done) | (simp; omega)) _))⟩
end Go.Proofs.Ytcfjhmglifpdlaa
