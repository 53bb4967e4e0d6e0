/- The walk of RatioOrder where no bottom is nought. -/
import Derived.Test.YtbkopmgfkokmgaaWOrd1
namespace Go.Proofs.Ytbkopmgfkokmgaa
open Go.RowKit
set_option maxRecDepth 100000 in
set_option maxHeartbeats 4000000 in
theorem order_big1 (an ad bn bd cn cd k : Int) (w : World) (i j m : Int) (i0 : -1 ≤ i) (i1 : i ≤ 1) (k0 : 0 ≤ k) (k1 : k ≤ 65535) (ht1 : ¬ (i ≤ 0 ∧ j ≤ 0 ∧ 0 < m)) (ht2 : ¬ (0 ≤ i ∧ 0 ≤ j ∧ m < 0)) (hb : 1099511627776 < an) (H1 : Hid (∀ W, Calls Try.prog 11 #[.agg #[.int .u64 an, .int .u64 ad], .agg #[.int .u64 bn, .int .u64 bd]] W fun e w' => e = .returned (.tuple #[.int .i64 i, .int .i64 0]) ∧ Below W.heap.size W w')) (H2 : Hid (∀ W, Calls Try.prog 11 #[.agg #[.int .u64 bn, .int .u64 bd], .agg #[.int .u64 cn, .int .u64 cd]] W fun e w' => e = .returned (.tuple #[.int .i64 j, .int .i64 0]) ∧ Below W.heap.size W w')) (H3 : Hid (∀ W, Calls Try.prog 11 #[.agg #[.int .u64 an, .int .u64 ad], .agg #[.int .u64 cn, .int .u64 cd]] W fun e w' => e = .returned (.tuple #[.int .i64 m, .int .i64 0]) ∧ Below W.heap.size W w')) (H4 : Hid (∀ W, Calls Try.prog 11 #[.agg #[.int .u64 bn, .int .u64 bd], .agg #[.int .u64 an, .int .u64 ad]] W fun e w' => e = .returned (.tuple #[.int .i64 (-i), .int .i64 0]) ∧ Below W.heap.size W w')) :
    Calls Try.prog 4 #[.agg #[.int .u64 an, .int .u64 ad, .int .u64 bn, .int .u64 bd, .int .u64 cn, .int .u64 cd], .int .u16 k] w fun e w' => e = .returned (.bool true) ∧ Below w.heap.size w w' := by
  go_enter Try.func4, Try.ntmps4
  go_upto_region 1 with fail
  obtain ⟨wo, hwo⟩ : ∃ wo : World, wo = w.alloc (.cells #[.int .u64 an, .int .u64 ad, .int .u64 bn, .int .u64 bd, .int .u64 cn, .int .u64 cd] 38) := ⟨_, rfl⟩
  rw [← hwo]
  have hT : wo.heap[w.heap.size]? = some (.cells #[.int .u64 an, .int .u64 ad, .int .u64 bn, .int .u64 bd, .int .u64 cn, .int .u64 cd] 38 (0, 0)) := by rw [hwo]; exact alloc_at _ _
  have hB0 : Below w.heap.size w wo := by rw [hwo]; exact (by repeat (first | with_reducible assumption | with_reducible exact Below.refl _ _ | with_reducible refine Below.drew ?_ | with_reducible refine below_drewN ?_ _ | with_reducible refine below_alloc ?_ _ | with_reducible refine Below.alloc ?_ (by first | omega | (simp; done) | (simp; omega)) _ | with_reducible refine Below.setCell ?_ (by first | omega | (simp; done) | (simp; omega)) _))
  have hs0 : w.heap.size < wo.heap.size := by rw [hwo]; simp
  have c0 := blk_cell hT 0
  have c1 := blk_cell hT 1
  have c2 := blk_cell hT 2
  have c3 := blk_cell hT 3
  have c4 := blk_cell hT 4
  have c5 := blk_cell hT 5
  simp at c0 c1 c2 c3 c4 c5
  clear hwo hT
  go_cut [5, 6, 7] (fun s5 s6 s7 wx => ∃ x y z : Nat, s5 = .pointer (some ⟨x, 0, none⟩) ∧ s6 = .pointer (some ⟨y, 0, none⟩) ∧ s7 = .pointer (some ⟨z, 0, none⟩) ∧ Below w.heap.size w wx ∧
    wx.heap[x]? = some (.cells #[.int .u64 an, .int .u64 ad] 24 (0, 0)) ∧ wx.heap[y]? = some (.cells #[.int .u64 bn, .int .u64 bd] 24 (0, 0)) ∧ wx.heap[z]? = some (.cells #[.int .u64 cn, .int .u64 cd] 24 (0, 0)))
  case first =>
    go_region_held3 (fun w' => Below wo.heap.size wo w' ∧ (∀ b o, b < wo.heap.size → w'.cell? ⟨b, o, none⟩ = wo.cell? ⟨b, o, none⟩) ∧ ∀ b o, b < wo.heap.size → w'.frozen? ⟨b, o, none⟩ = wo.frozen? ⟨b, o, none⟩) (first | ((try go_split_ands); (try dsimp only); refine same_of ?_; (repeat (first | with_reducible assumption | with_reducible exact Below.refl _ _ | with_reducible refine Below.drew ?_ | with_reducible refine below_drewN ?_ _ | with_reducible refine below_alloc ?_ _ | with_reducible refine Below.alloc ?_ (by first | omega | (simp; done) | (simp; omega)) _ | with_reducible refine Below.setCell ?_ (by first | omega | (simp; done) | (simp; omega)) _)); done)) (fail)
    all_goals (go_wp2_with fail; go_meet; exact ⟨_, _, _, rfl, rfl, rfl, (by repeat (first | with_reducible assumption | with_reducible exact Below.refl _ _ | with_reducible refine Below.drew ?_ | with_reducible refine below_drewN ?_ _ | with_reducible refine below_alloc ?_ _ | with_reducible refine Below.alloc ?_ (by first | omega | (simp; done) | (simp; omega)) _ | with_reducible refine Below.setCell ?_ (by first | omega | (simp; done) | (simp; omega)) _)), (by (repeat (first | (with_reducible assumption) | (with_reducible exact alloc_at _ _) | ((with_reducible apply alloc_at'); (simp; done)) | (with_reducible apply alloc_at_lt) | (with_reducible apply heap_drew_at) | (with_reducible apply heap_drewN_at) | (with_reducible apply heap_setCell_same) | ((with_reducible apply heap_set_ne); (first | omega | (simp; done) | (simp; omega)))))), (by (repeat (first | (with_reducible assumption) | (with_reducible exact alloc_at _ _) | ((with_reducible apply alloc_at'); (simp; done)) | (with_reducible apply alloc_at_lt) | (with_reducible apply heap_drew_at) | (with_reducible apply heap_drewN_at) | (with_reducible apply heap_setCell_same) | ((with_reducible apply heap_set_ne); (first | omega | (simp; done) | (simp; omega)))))), (by (repeat (first | (with_reducible assumption) | (with_reducible exact alloc_at _ _) | ((with_reducible apply alloc_at'); (simp; done)) | (with_reducible apply alloc_at_lt) | (with_reducible apply heap_drew_at) | (with_reducible apply heap_drewN_at) | (with_reducible apply heap_setCell_same) | ((with_reducible apply heap_set_ne); (first | omega | (simp; done) | (simp; omega))))))⟩)
  case rest =>
    obtain ⟨x, y, z, rfl, rfl, rfl, hB, hX, hY, hZ⟩ := hcut
    clear c0 c1 c2 c3 c4 c5 hB0 hs0 wo
    have hx := lt_of_at hX
    have hy := lt_of_at hY
    have hz := lt_of_at hZ
    have hsz := hB.size
    go_wp2_with fail
    refine (awake2_any _).mono ?_
    rintro e w1 ⟨rfl, hb1⟩
    have hs1 := hb1.size
    try simp only [World.size_alloc, World.size_setCell] at hs1
    have X_1 : w1.heap[x]? = some (.cells #[.int .u64 an, .int .u64 ad] 24 (0, 0)) := below_at hb1 (by first | omega | (simp; done) | (simp; omega)) (by (repeat (first | (with_reducible assumption) | (with_reducible exact alloc_at _ _) | ((with_reducible apply alloc_at'); (simp; done)) | (with_reducible apply alloc_at_lt) | (with_reducible apply heap_drew_at) | (with_reducible apply heap_drewN_at) | (with_reducible apply heap_setCell_same) | ((with_reducible apply heap_set_ne); (first | omega | (simp; done) | (simp; omega))))))
    have Y_1 : w1.heap[y]? = some (.cells #[.int .u64 bn, .int .u64 bd] 24 (0, 0)) := below_at hb1 (by first | omega | (simp; done) | (simp; omega)) (by (repeat (first | (with_reducible assumption) | (with_reducible exact alloc_at _ _) | ((with_reducible apply alloc_at'); (simp; done)) | (with_reducible apply alloc_at_lt) | (with_reducible apply heap_drew_at) | (with_reducible apply heap_drewN_at) | (with_reducible apply heap_setCell_same) | ((with_reducible apply heap_set_ne); (first | omega | (simp; done) | (simp; omega))))))
    have Z_1 : w1.heap[z]? = some (.cells #[.int .u64 cn, .int .u64 cd] 24 (0, 0)) := below_at hb1 (by first | omega | (simp; done) | (simp; omega)) (by (repeat (first | (with_reducible assumption) | (with_reducible exact alloc_at _ _) | ((with_reducible apply alloc_at'); (simp; done)) | (with_reducible apply alloc_at_lt) | (with_reducible apply heap_drew_at) | (with_reducible apply heap_drewN_at) | (with_reducible apply heap_setCell_same) | ((with_reducible apply heap_set_ne); (first | omega | (simp; done) | (simp; omega))))))
    have B1 : Below w.heap.size w w1 := Below.trans (by repeat (first | with_reducible assumption | with_reducible exact Below.refl _ _ | with_reducible refine Below.drew ?_ | with_reducible refine below_drewN ?_ _ | with_reducible refine below_alloc ?_ _ | with_reducible refine Below.alloc ?_ (by first | omega | (simp; done) | (simp; omega)) _ | with_reducible refine Below.setCell ?_ (by first | omega | (simp; done) | (simp; omega)) _)) (hb1.mono (by first | omega | (simp; done) | (simp; omega)))
    clear hb1
    have Xc0 : w1.cell? ⟨x, 0, none⟩ = some (.int .u64 an) := (blk_cell X_1 0).trans rfl
    have Xc1 : w1.cell? ⟨x, 1, none⟩ = some (.int .u64 ad) := (blk_cell X_1 1).trans rfl
    have Xcf := blk_free X_1
    have Yc0 : w1.cell? ⟨y, 0, none⟩ = some (.int .u64 bn) := (blk_cell Y_1 0).trans rfl
    have Yc1 : w1.cell? ⟨y, 1, none⟩ = some (.int .u64 bd) := (blk_cell Y_1 1).trans rfl
    have Ycf := blk_free Y_1
    have Zc0 : w1.cell? ⟨z, 0, none⟩ = some (.int .u64 cn) := (blk_cell Z_1 0).trans rfl
    have Zc1 : w1.cell? ⟨z, 1, none⟩ = some (.int .u64 cd) := (blk_cell Z_1 1).trans rfl
    have Zcf := blk_free Z_1
    have Xl1 : x < w1.heap.size := by omega
    have Yl1 : y < w1.heap.size := by omega
    have Zl1 : z < w1.heap.size := by omega
    go_wp2_with fail
    refine (H1.out _).mono ?_
    rintro e w2 ⟨rfl, hb2⟩
    have hs2 := hb2.size
    try simp only [World.size_alloc, World.size_setCell] at hs2
    have X_2 : w2.heap[x]? = some (.cells #[.int .u64 an, .int .u64 ad] 24 (0, 0)) := below_at hb2 (by first | omega | (simp; done) | (simp; omega)) (by (repeat (first | (with_reducible assumption) | (with_reducible exact alloc_at _ _) | ((with_reducible apply alloc_at'); (simp; done)) | (with_reducible apply alloc_at_lt) | (with_reducible apply heap_drew_at) | (with_reducible apply heap_drewN_at) | (with_reducible apply heap_setCell_same) | ((with_reducible apply heap_set_ne); (first | omega | (simp; done) | (simp; omega))))))
    have Y_2 : w2.heap[y]? = some (.cells #[.int .u64 bn, .int .u64 bd] 24 (0, 0)) := below_at hb2 (by first | omega | (simp; done) | (simp; omega)) (by (repeat (first | (with_reducible assumption) | (with_reducible exact alloc_at _ _) | ((with_reducible apply alloc_at'); (simp; done)) | (with_reducible apply alloc_at_lt) | (with_reducible apply heap_drew_at) | (with_reducible apply heap_drewN_at) | (with_reducible apply heap_setCell_same) | ((with_reducible apply heap_set_ne); (first | omega | (simp; done) | (simp; omega))))))
    have Z_2 : w2.heap[z]? = some (.cells #[.int .u64 cn, .int .u64 cd] 24 (0, 0)) := below_at hb2 (by first | omega | (simp; done) | (simp; omega)) (by (repeat (first | (with_reducible assumption) | (with_reducible exact alloc_at _ _) | ((with_reducible apply alloc_at'); (simp; done)) | (with_reducible apply alloc_at_lt) | (with_reducible apply heap_drew_at) | (with_reducible apply heap_drewN_at) | (with_reducible apply heap_setCell_same) | ((with_reducible apply heap_set_ne); (first | omega | (simp; done) | (simp; omega))))))
    have B2 : Below w.heap.size w w2 := Below.trans (by repeat (first | with_reducible assumption | with_reducible exact Below.refl _ _ | with_reducible refine Below.drew ?_ | with_reducible refine below_drewN ?_ _ | with_reducible refine below_alloc ?_ _ | with_reducible refine Below.alloc ?_ (by first | omega | (simp; done) | (simp; omega)) _ | with_reducible refine Below.setCell ?_ (by first | omega | (simp; done) | (simp; omega)) _)) (hb2.mono (by first | omega | (simp; done) | (simp; omega)))
    clear hb2 X_1 Y_1 Z_1
    clear Xc0 Xc1 Xcf
    clear Yc0 Yc1 Ycf
    clear Zc0 Zc1 Zcf
    have Xc0 : w2.cell? ⟨x, 0, none⟩ = some (.int .u64 an) := (blk_cell X_2 0).trans rfl
    have Xc1 : w2.cell? ⟨x, 1, none⟩ = some (.int .u64 ad) := (blk_cell X_2 1).trans rfl
    have Xcf := blk_free X_2
    have Yc0 : w2.cell? ⟨y, 0, none⟩ = some (.int .u64 bn) := (blk_cell Y_2 0).trans rfl
    have Yc1 : w2.cell? ⟨y, 1, none⟩ = some (.int .u64 bd) := (blk_cell Y_2 1).trans rfl
    have Ycf := blk_free Y_2
    have Zc0 : w2.cell? ⟨z, 0, none⟩ = some (.int .u64 cn) := (blk_cell Z_2 0).trans rfl
    have Zc1 : w2.cell? ⟨z, 1, none⟩ = some (.int .u64 cd) := (blk_cell Z_2 1).trans rfl
    have Zcf := blk_free Z_2
    have Xl2 : x < w2.heap.size := by omega
    have Yl2 : y < w2.heap.size := by omega
    have Zl2 : z < w2.heap.size := by omega
    go_wp2_with fail
    refine (H2.out _).mono ?_
    rintro e w3 ⟨rfl, hb3⟩
    have hs3 := hb3.size
    try simp only [World.size_alloc, World.size_setCell] at hs3
    have X_3 : w3.heap[x]? = some (.cells #[.int .u64 an, .int .u64 ad] 24 (0, 0)) := below_at hb3 (by first | omega | (simp; done) | (simp; omega)) (by (repeat (first | (with_reducible assumption) | (with_reducible exact alloc_at _ _) | ((with_reducible apply alloc_at'); (simp; done)) | (with_reducible apply alloc_at_lt) | (with_reducible apply heap_drew_at) | (with_reducible apply heap_drewN_at) | (with_reducible apply heap_setCell_same) | ((with_reducible apply heap_set_ne); (first | omega | (simp; done) | (simp; omega))))))
    have Y_3 : w3.heap[y]? = some (.cells #[.int .u64 bn, .int .u64 bd] 24 (0, 0)) := below_at hb3 (by first | omega | (simp; done) | (simp; omega)) (by (repeat (first | (with_reducible assumption) | (with_reducible exact alloc_at _ _) | ((with_reducible apply alloc_at'); (simp; done)) | (with_reducible apply alloc_at_lt) | (with_reducible apply heap_drew_at) | (with_reducible apply heap_drewN_at) | (with_reducible apply heap_setCell_same) | ((with_reducible apply heap_set_ne); (first | omega | (simp; done) | (simp; omega))))))
    have Z_3 : w3.heap[z]? = some (.cells #[.int .u64 cn, .int .u64 cd] 24 (0, 0)) := below_at hb3 (by first | omega | (simp; done) | (simp; omega)) (by (repeat (first | (with_reducible assumption) | (with_reducible exact alloc_at _ _) | ((with_reducible apply alloc_at'); (simp; done)) | (with_reducible apply alloc_at_lt) | (with_reducible apply heap_drew_at) | (with_reducible apply heap_drewN_at) | (with_reducible apply heap_setCell_same) | ((with_reducible apply heap_set_ne); (first | omega | (simp; done) | (simp; omega))))))
    have B3 : Below w.heap.size w w3 := Below.trans (by repeat (first | with_reducible assumption | with_reducible exact Below.refl _ _ | with_reducible refine Below.drew ?_ | with_reducible refine below_drewN ?_ _ | with_reducible refine below_alloc ?_ _ | with_reducible refine Below.alloc ?_ (by first | omega | (simp; done) | (simp; omega)) _ | with_reducible refine Below.setCell ?_ (by first | omega | (simp; done) | (simp; omega)) _)) (hb3.mono (by first | omega | (simp; done) | (simp; omega)))
    clear hb3 X_2 Y_2 Z_2
    clear Xc0 Xc1 Xcf
    clear Yc0 Yc1 Ycf
    clear Zc0 Zc1 Zcf
    have Xc0 : w3.cell? ⟨x, 0, none⟩ = some (.int .u64 an) := (blk_cell X_3 0).trans rfl
    have Xc1 : w3.cell? ⟨x, 1, none⟩ = some (.int .u64 ad) := (blk_cell X_3 1).trans rfl
    have Xcf := blk_free X_3
    have Yc0 : w3.cell? ⟨y, 0, none⟩ = some (.int .u64 bn) := (blk_cell Y_3 0).trans rfl
    have Yc1 : w3.cell? ⟨y, 1, none⟩ = some (.int .u64 bd) := (blk_cell Y_3 1).trans rfl
    have Ycf := blk_free Y_3
    have Zc0 : w3.cell? ⟨z, 0, none⟩ = some (.int .u64 cn) := (blk_cell Z_3 0).trans rfl
    have Zc1 : w3.cell? ⟨z, 1, none⟩ = some (.int .u64 cd) := (blk_cell Z_3 1).trans rfl
    have Zcf := blk_free Z_3
    have Xl3 : x < w3.heap.size := by omega
    have Yl3 : y < w3.heap.size := by omega
    have Zl3 : z < w3.heap.size := by omega
    go_wp2_with fail
    refine (H3.out _).mono ?_
    rintro e w4 ⟨rfl, hb4⟩
    have hs4 := hb4.size
    try simp only [World.size_alloc, World.size_setCell] at hs4
    have X_4 : w4.heap[x]? = some (.cells #[.int .u64 an, .int .u64 ad] 24 (0, 0)) := below_at hb4 (by first | omega | (simp; done) | (simp; omega)) (by (repeat (first | (with_reducible assumption) | (with_reducible exact alloc_at _ _) | ((with_reducible apply alloc_at'); (simp; done)) | (with_reducible apply alloc_at_lt) | (with_reducible apply heap_drew_at) | (with_reducible apply heap_drewN_at) | (with_reducible apply heap_setCell_same) | ((with_reducible apply heap_set_ne); (first | omega | (simp; done) | (simp; omega))))))
    have Y_4 : w4.heap[y]? = some (.cells #[.int .u64 bn, .int .u64 bd] 24 (0, 0)) := below_at hb4 (by first | omega | (simp; done) | (simp; omega)) (by (repeat (first | (with_reducible assumption) | (with_reducible exact alloc_at _ _) | ((with_reducible apply alloc_at'); (simp; done)) | (with_reducible apply alloc_at_lt) | (with_reducible apply heap_drew_at) | (with_reducible apply heap_drewN_at) | (with_reducible apply heap_setCell_same) | ((with_reducible apply heap_set_ne); (first | omega | (simp; done) | (simp; omega))))))
    have Z_4 : w4.heap[z]? = some (.cells #[.int .u64 cn, .int .u64 cd] 24 (0, 0)) := below_at hb4 (by first | omega | (simp; done) | (simp; omega)) (by (repeat (first | (with_reducible assumption) | (with_reducible exact alloc_at _ _) | ((with_reducible apply alloc_at'); (simp; done)) | (with_reducible apply alloc_at_lt) | (with_reducible apply heap_drew_at) | (with_reducible apply heap_drewN_at) | (with_reducible apply heap_setCell_same) | ((with_reducible apply heap_set_ne); (first | omega | (simp; done) | (simp; omega))))))
    have B4 : Below w.heap.size w w4 := Below.trans (by repeat (first | with_reducible assumption | with_reducible exact Below.refl _ _ | with_reducible refine Below.drew ?_ | with_reducible refine below_drewN ?_ _ | with_reducible refine below_alloc ?_ _ | with_reducible refine Below.alloc ?_ (by first | omega | (simp; done) | (simp; omega)) _ | with_reducible refine Below.setCell ?_ (by first | omega | (simp; done) | (simp; omega)) _)) (hb4.mono (by first | omega | (simp; done) | (simp; omega)))
    clear hb4 X_3 Y_3 Z_3
    clear Xc0 Xc1 Xcf
    clear Yc0 Yc1 Ycf
    clear Zc0 Zc1 Zcf
    have Xc0 : w4.cell? ⟨x, 0, none⟩ = some (.int .u64 an) := (blk_cell X_4 0).trans rfl
    have Xc1 : w4.cell? ⟨x, 1, none⟩ = some (.int .u64 ad) := (blk_cell X_4 1).trans rfl
    have Xcf := blk_free X_4
    have Yc0 : w4.cell? ⟨y, 0, none⟩ = some (.int .u64 bn) := (blk_cell Y_4 0).trans rfl
    have Yc1 : w4.cell? ⟨y, 1, none⟩ = some (.int .u64 bd) := (blk_cell Y_4 1).trans rfl
    have Ycf := blk_free Y_4
    have Zc0 : w4.cell? ⟨z, 0, none⟩ = some (.int .u64 cn) := (blk_cell Z_4 0).trans rfl
    have Zc1 : w4.cell? ⟨z, 1, none⟩ = some (.int .u64 cd) := (blk_cell Z_4 1).trans rfl
    have Zcf := blk_free Z_4
    have Xl4 : x < w4.heap.size := by omega
    have Yl4 : y < w4.heap.size := by omega
    have Zl4 : z < w4.heap.size := by omega
    go_wp2_with fail
    refine (H4.out _).mono ?_
    rintro e w5 ⟨rfl, hb5⟩
    have hs5 := hb5.size
    try simp only [World.size_alloc, World.size_setCell] at hs5
    have X_5 : w5.heap[x]? = some (.cells #[.int .u64 an, .int .u64 ad] 24 (0, 0)) := below_at hb5 (by first | omega | (simp; done) | (simp; omega)) (by (repeat (first | (with_reducible assumption) | (with_reducible exact alloc_at _ _) | ((with_reducible apply alloc_at'); (simp; done)) | (with_reducible apply alloc_at_lt) | (with_reducible apply heap_drew_at) | (with_reducible apply heap_drewN_at) | (with_reducible apply heap_setCell_same) | ((with_reducible apply heap_set_ne); (first | omega | (simp; done) | (simp; omega))))))
    have Y_5 : w5.heap[y]? = some (.cells #[.int .u64 bn, .int .u64 bd] 24 (0, 0)) := below_at hb5 (by first | omega | (simp; done) | (simp; omega)) (by (repeat (first | (with_reducible assumption) | (with_reducible exact alloc_at _ _) | ((with_reducible apply alloc_at'); (simp; done)) | (with_reducible apply alloc_at_lt) | (with_reducible apply heap_drew_at) | (with_reducible apply heap_drewN_at) | (with_reducible apply heap_setCell_same) | ((with_reducible apply heap_set_ne); (first | omega | (simp; done) | (simp; omega))))))
    have Z_5 : w5.heap[z]? = some (.cells #[.int .u64 cn, .int .u64 cd] 24 (0, 0)) := below_at hb5 (by first | omega | (simp; done) | (simp; omega)) (by (repeat (first | (with_reducible assumption) | (with_reducible exact alloc_at _ _) | ((with_reducible apply alloc_at'); (simp; done)) | (with_reducible apply alloc_at_lt) | (with_reducible apply heap_drew_at) | (with_reducible apply heap_drewN_at) | (with_reducible apply heap_setCell_same) | ((with_reducible apply heap_set_ne); (first | omega | (simp; done) | (simp; omega))))))
    have B5 : Below w.heap.size w w5 := Below.trans (by repeat (first | with_reducible assumption | with_reducible exact Below.refl _ _ | with_reducible refine Below.drew ?_ | with_reducible refine below_drewN ?_ _ | with_reducible refine below_alloc ?_ _ | with_reducible refine Below.alloc ?_ (by first | omega | (simp; done) | (simp; omega)) _ | with_reducible refine Below.setCell ?_ (by first | omega | (simp; done) | (simp; omega)) _)) (hb5.mono (by first | omega | (simp; done) | (simp; omega)))
    clear hb5 X_4 Y_4 Z_4
    clear Xc0 Xc1 Xcf
    clear Yc0 Yc1 Ycf
    clear Zc0 Zc1 Zcf
    have Xc0 : w5.cell? ⟨x, 0, none⟩ = some (.int .u64 an) := (blk_cell X_5 0).trans rfl
    have Xc1 : w5.cell? ⟨x, 1, none⟩ = some (.int .u64 ad) := (blk_cell X_5 1).trans rfl
    have Xcf := blk_free X_5
    have Yc0 : w5.cell? ⟨y, 0, none⟩ = some (.int .u64 bn) := (blk_cell Y_5 0).trans rfl
    have Yc1 : w5.cell? ⟨y, 1, none⟩ = some (.int .u64 bd) := (blk_cell Y_5 1).trans rfl
    have Ycf := blk_free Y_5
    have Zc0 : w5.cell? ⟨z, 0, none⟩ = some (.int .u64 cn) := (blk_cell Z_5 0).trans rfl
    have Zc1 : w5.cell? ⟨z, 1, none⟩ = some (.int .u64 cd) := (blk_cell Z_5 1).trans rfl
    have Zcf := blk_free Z_5
    have Xl5 : x < w5.heap.size := by omega
    have Yl5 : y < w5.heap.size := by omega
    have Zl5 : z < w5.heap.size := by omega
    go_upto_region 10 with fail
    go_cut [105] (fun s wx => s = .bool false ∧ wx = w5)
    case first =>
      go_wp2
      all_goals (go_meet; exact ⟨by first | rfl | (exfalso; omega) | (simp; omega) | (simp; done), by first | rfl | trivial⟩)
    case rest =>
      obtain ⟨rfl, rfl⟩ := hcut
      clear ht1 ht2
      go_wp2
      all_goals (go_ret; exact ⟨by first | rfl | simp | (exfalso; omega), (by repeat (first | with_reducible assumption | with_reducible exact Below.refl _ _ | with_reducible refine Below.drew ?_ | with_reducible refine below_drewN ?_ _ | with_reducible refine below_alloc ?_ _ | with_reducible refine Below.alloc ?_ (by first | omega | (simp; done) | (simp; omega)) _ | with_reducible refine Below.setCell ?_ (by first | omega | (simp; done) | (simp; omega)) _))⟩)
set_option maxRecDepth 100000 in
set_option maxHeartbeats 4000000 in
theorem order_big2 (an ad bn bd cn cd k : Int) (w : World) (i j m : Int) (i0 : -1 ≤ i) (i1 : i ≤ 1) (k0 : 0 ≤ k) (k1 : k ≤ 65535) (ht1 : ¬ (i ≤ 0 ∧ j ≤ 0 ∧ 0 < m)) (ht2 : ¬ (0 ≤ i ∧ 0 ≤ j ∧ m < 0)) (ha : an ≤ 1099511627776) (hb : 1099511627776 < ad) (H1 : Hid (∀ W, Calls Try.prog 11 #[.agg #[.int .u64 an, .int .u64 ad], .agg #[.int .u64 bn, .int .u64 bd]] W fun e w' => e = .returned (.tuple #[.int .i64 i, .int .i64 0]) ∧ Below W.heap.size W w')) (H2 : Hid (∀ W, Calls Try.prog 11 #[.agg #[.int .u64 bn, .int .u64 bd], .agg #[.int .u64 cn, .int .u64 cd]] W fun e w' => e = .returned (.tuple #[.int .i64 j, .int .i64 0]) ∧ Below W.heap.size W w')) (H3 : Hid (∀ W, Calls Try.prog 11 #[.agg #[.int .u64 an, .int .u64 ad], .agg #[.int .u64 cn, .int .u64 cd]] W fun e w' => e = .returned (.tuple #[.int .i64 m, .int .i64 0]) ∧ Below W.heap.size W w')) (H4 : Hid (∀ W, Calls Try.prog 11 #[.agg #[.int .u64 bn, .int .u64 bd], .agg #[.int .u64 an, .int .u64 ad]] W fun e w' => e = .returned (.tuple #[.int .i64 (-i), .int .i64 0]) ∧ Below W.heap.size W w')) :
    Calls Try.prog 4 #[.agg #[.int .u64 an, .int .u64 ad, .int .u64 bn, .int .u64 bd, .int .u64 cn, .int .u64 cd], .int .u16 k] w fun e w' => e = .returned (.bool true) ∧ Below w.heap.size w w' := by
  go_enter Try.func4, Try.ntmps4
  go_upto_region 1 with fail
  obtain ⟨wo, hwo⟩ : ∃ wo : World, wo = w.alloc (.cells #[.int .u64 an, .int .u64 ad, .int .u64 bn, .int .u64 bd, .int .u64 cn, .int .u64 cd] 38) := ⟨_, rfl⟩
  rw [← hwo]
  have hT : wo.heap[w.heap.size]? = some (.cells #[.int .u64 an, .int .u64 ad, .int .u64 bn, .int .u64 bd, .int .u64 cn, .int .u64 cd] 38 (0, 0)) := by rw [hwo]; exact alloc_at _ _
  have hB0 : Below w.heap.size w wo := by rw [hwo]; exact (by repeat (first | with_reducible assumption | with_reducible exact Below.refl _ _ | with_reducible refine Below.drew ?_ | with_reducible refine below_drewN ?_ _ | with_reducible refine below_alloc ?_ _ | with_reducible refine Below.alloc ?_ (by first | omega | (simp; done) | (simp; omega)) _ | with_reducible refine Below.setCell ?_ (by first | omega | (simp; done) | (simp; omega)) _))
  have hs0 : w.heap.size < wo.heap.size := by rw [hwo]; simp
  have c0 := blk_cell hT 0
  have c1 := blk_cell hT 1
  have c2 := blk_cell hT 2
  have c3 := blk_cell hT 3
  have c4 := blk_cell hT 4
  have c5 := blk_cell hT 5
  simp at c0 c1 c2 c3 c4 c5
  clear hwo hT
  go_cut [5, 6, 7] (fun s5 s6 s7 wx => ∃ x y z : Nat, s5 = .pointer (some ⟨x, 0, none⟩) ∧ s6 = .pointer (some ⟨y, 0, none⟩) ∧ s7 = .pointer (some ⟨z, 0, none⟩) ∧ Below w.heap.size w wx ∧
    wx.heap[x]? = some (.cells #[.int .u64 an, .int .u64 ad] 24 (0, 0)) ∧ wx.heap[y]? = some (.cells #[.int .u64 bn, .int .u64 bd] 24 (0, 0)) ∧ wx.heap[z]? = some (.cells #[.int .u64 cn, .int .u64 cd] 24 (0, 0)))
  case first =>
    go_region_held3 (fun w' => Below wo.heap.size wo w' ∧ (∀ b o, b < wo.heap.size → w'.cell? ⟨b, o, none⟩ = wo.cell? ⟨b, o, none⟩) ∧ ∀ b o, b < wo.heap.size → w'.frozen? ⟨b, o, none⟩ = wo.frozen? ⟨b, o, none⟩) (first | ((try go_split_ands); (try dsimp only); refine same_of ?_; (repeat (first | with_reducible assumption | with_reducible exact Below.refl _ _ | with_reducible refine Below.drew ?_ | with_reducible refine below_drewN ?_ _ | with_reducible refine below_alloc ?_ _ | with_reducible refine Below.alloc ?_ (by first | omega | (simp; done) | (simp; omega)) _ | with_reducible refine Below.setCell ?_ (by first | omega | (simp; done) | (simp; omega)) _)); done)) (fail)
    all_goals (go_wp2_with fail; go_meet; exact ⟨_, _, _, rfl, rfl, rfl, (by repeat (first | with_reducible assumption | with_reducible exact Below.refl _ _ | with_reducible refine Below.drew ?_ | with_reducible refine below_drewN ?_ _ | with_reducible refine below_alloc ?_ _ | with_reducible refine Below.alloc ?_ (by first | omega | (simp; done) | (simp; omega)) _ | with_reducible refine Below.setCell ?_ (by first | omega | (simp; done) | (simp; omega)) _)), (by (repeat (first | (with_reducible assumption) | (with_reducible exact alloc_at _ _) | ((with_reducible apply alloc_at'); (simp; done)) | (with_reducible apply alloc_at_lt) | (with_reducible apply heap_drew_at) | (with_reducible apply heap_drewN_at) | (with_reducible apply heap_setCell_same) | ((with_reducible apply heap_set_ne); (first | omega | (simp; done) | (simp; omega)))))), (by (repeat (first | (with_reducible assumption) | (with_reducible exact alloc_at _ _) | ((with_reducible apply alloc_at'); (simp; done)) | (with_reducible apply alloc_at_lt) | (with_reducible apply heap_drew_at) | (with_reducible apply heap_drewN_at) | (with_reducible apply heap_setCell_same) | ((with_reducible apply heap_set_ne); (first | omega | (simp; done) | (simp; omega)))))), (by (repeat (first | (with_reducible assumption) | (with_reducible exact alloc_at _ _) | ((with_reducible apply alloc_at'); (simp; done)) | (with_reducible apply alloc_at_lt) | (with_reducible apply heap_drew_at) | (with_reducible apply heap_drewN_at) | (with_reducible apply heap_setCell_same) | ((with_reducible apply heap_set_ne); (first | omega | (simp; done) | (simp; omega))))))⟩)
  case rest =>
    obtain ⟨x, y, z, rfl, rfl, rfl, hB, hX, hY, hZ⟩ := hcut
    clear c0 c1 c2 c3 c4 c5 hB0 hs0 wo
    have hx := lt_of_at hX
    have hy := lt_of_at hY
    have hz := lt_of_at hZ
    have hsz := hB.size
    go_wp2_with fail
    refine (awake2_any _).mono ?_
    rintro e w1 ⟨rfl, hb1⟩
    have hs1 := hb1.size
    try simp only [World.size_alloc, World.size_setCell] at hs1
    have X_1 : w1.heap[x]? = some (.cells #[.int .u64 an, .int .u64 ad] 24 (0, 0)) := below_at hb1 (by first | omega | (simp; done) | (simp; omega)) (by (repeat (first | (with_reducible assumption) | (with_reducible exact alloc_at _ _) | ((with_reducible apply alloc_at'); (simp; done)) | (with_reducible apply alloc_at_lt) | (with_reducible apply heap_drew_at) | (with_reducible apply heap_drewN_at) | (with_reducible apply heap_setCell_same) | ((with_reducible apply heap_set_ne); (first | omega | (simp; done) | (simp; omega))))))
    have Y_1 : w1.heap[y]? = some (.cells #[.int .u64 bn, .int .u64 bd] 24 (0, 0)) := below_at hb1 (by first | omega | (simp; done) | (simp; omega)) (by (repeat (first | (with_reducible assumption) | (with_reducible exact alloc_at _ _) | ((with_reducible apply alloc_at'); (simp; done)) | (with_reducible apply alloc_at_lt) | (with_reducible apply heap_drew_at) | (with_reducible apply heap_drewN_at) | (with_reducible apply heap_setCell_same) | ((with_reducible apply heap_set_ne); (first | omega | (simp; done) | (simp; omega))))))
    have Z_1 : w1.heap[z]? = some (.cells #[.int .u64 cn, .int .u64 cd] 24 (0, 0)) := below_at hb1 (by first | omega | (simp; done) | (simp; omega)) (by (repeat (first | (with_reducible assumption) | (with_reducible exact alloc_at _ _) | ((with_reducible apply alloc_at'); (simp; done)) | (with_reducible apply alloc_at_lt) | (with_reducible apply heap_drew_at) | (with_reducible apply heap_drewN_at) | (with_reducible apply heap_setCell_same) | ((with_reducible apply heap_set_ne); (first | omega | (simp; done) | (simp; omega))))))
    have B1 : Below w.heap.size w w1 := Below.trans (by repeat (first | with_reducible assumption | with_reducible exact Below.refl _ _ | with_reducible refine Below.drew ?_ | with_reducible refine below_drewN ?_ _ | with_reducible refine below_alloc ?_ _ | with_reducible refine Below.alloc ?_ (by first | omega | (simp; done) | (simp; omega)) _ | with_reducible refine Below.setCell ?_ (by first | omega | (simp; done) | (simp; omega)) _)) (hb1.mono (by first | omega | (simp; done) | (simp; omega)))
    clear hb1
    have Xc0 : w1.cell? ⟨x, 0, none⟩ = some (.int .u64 an) := (blk_cell X_1 0).trans rfl
    have Xc1 : w1.cell? ⟨x, 1, none⟩ = some (.int .u64 ad) := (blk_cell X_1 1).trans rfl
    have Xcf := blk_free X_1
    have Yc0 : w1.cell? ⟨y, 0, none⟩ = some (.int .u64 bn) := (blk_cell Y_1 0).trans rfl
    have Yc1 : w1.cell? ⟨y, 1, none⟩ = some (.int .u64 bd) := (blk_cell Y_1 1).trans rfl
    have Ycf := blk_free Y_1
    have Zc0 : w1.cell? ⟨z, 0, none⟩ = some (.int .u64 cn) := (blk_cell Z_1 0).trans rfl
    have Zc1 : w1.cell? ⟨z, 1, none⟩ = some (.int .u64 cd) := (blk_cell Z_1 1).trans rfl
    have Zcf := blk_free Z_1
    have Xl1 : x < w1.heap.size := by omega
    have Yl1 : y < w1.heap.size := by omega
    have Zl1 : z < w1.heap.size := by omega
    go_wp2_with fail
    refine (H1.out _).mono ?_
    rintro e w2 ⟨rfl, hb2⟩
    have hs2 := hb2.size
    try simp only [World.size_alloc, World.size_setCell] at hs2
    have X_2 : w2.heap[x]? = some (.cells #[.int .u64 an, .int .u64 ad] 24 (0, 0)) := below_at hb2 (by first | omega | (simp; done) | (simp; omega)) (by (repeat (first | (with_reducible assumption) | (with_reducible exact alloc_at _ _) | ((with_reducible apply alloc_at'); (simp; done)) | (with_reducible apply alloc_at_lt) | (with_reducible apply heap_drew_at) | (with_reducible apply heap_drewN_at) | (with_reducible apply heap_setCell_same) | ((with_reducible apply heap_set_ne); (first | omega | (simp; done) | (simp; omega))))))
    have Y_2 : w2.heap[y]? = some (.cells #[.int .u64 bn, .int .u64 bd] 24 (0, 0)) := below_at hb2 (by first | omega | (simp; done) | (simp; omega)) (by (repeat (first | (with_reducible assumption) | (with_reducible exact alloc_at _ _) | ((with_reducible apply alloc_at'); (simp; done)) | (with_reducible apply alloc_at_lt) | (with_reducible apply heap_drew_at) | (with_reducible apply heap_drewN_at) | (with_reducible apply heap_setCell_same) | ((with_reducible apply heap_set_ne); (first | omega | (simp; done) | (simp; omega))))))
    have Z_2 : w2.heap[z]? = some (.cells #[.int .u64 cn, .int .u64 cd] 24 (0, 0)) := below_at hb2 (by first | omega | (simp; done) | (simp; omega)) (by (repeat (first | (with_reducible assumption) | (with_reducible exact alloc_at _ _) | ((with_reducible apply alloc_at'); (simp; done)) | (with_reducible apply alloc_at_lt) | (with_reducible apply heap_drew_at) | (with_reducible apply heap_drewN_at) | (with_reducible apply heap_setCell_same) | ((with_reducible apply heap_set_ne); (first | omega | (simp; done) | (simp; omega))))))
    have B2 : Below w.heap.size w w2 := Below.trans (by repeat (first | with_reducible assumption | with_reducible exact Below.refl _ _ | with_reducible refine Below.drew ?_ | with_reducible refine below_drewN ?_ _ | with_reducible refine below_alloc ?_ _ | with_reducible refine Below.alloc ?_ (by first | omega | (simp; done) | (simp; omega)) _ | with_reducible refine Below.setCell ?_ (by first | omega | (simp; done) | (simp; omega)) _)) (hb2.mono (by first | omega | (simp; done) | (simp; omega)))
    clear hb2 X_1 Y_1 Z_1
    clear Xc0 Xc1 Xcf
    clear Yc0 Yc1 Ycf
    clear Zc0 Zc1 Zcf
    have Xc0 : w2.cell? ⟨x, 0, none⟩ = some (.int .u64 an) := (blk_cell X_2 0).trans rfl
    have Xc1 : w2.cell? ⟨x, 1, none⟩ = some (.int .u64 ad) := (blk_cell X_2 1).trans rfl
    have Xcf := blk_free X_2
    have Yc0 : w2.cell? ⟨y, 0, none⟩ = some (.int .u64 bn) := (blk_cell Y_2 0).trans rfl
    have Yc1 : w2.cell? ⟨y, 1, none⟩ = some (.int .u64 bd) := (blk_cell Y_2 1).trans rfl
    have Ycf := blk_free Y_2
    have Zc0 : w2.cell? ⟨z, 0, none⟩ = some (.int .u64 cn) := (blk_cell Z_2 0).trans rfl
    have Zc1 : w2.cell? ⟨z, 1, none⟩ = some (.int .u64 cd) := (blk_cell Z_2 1).trans rfl
    have Zcf := blk_free Z_2
    have Xl2 : x < w2.heap.size := by omega
    have Yl2 : y < w2.heap.size := by omega
    have Zl2 : z < w2.heap.size := by omega
    go_wp2_with fail
    refine (H2.out _).mono ?_
    rintro e w3 ⟨rfl, hb3⟩
    have hs3 := hb3.size
    try simp only [World.size_alloc, World.size_setCell] at hs3
    have X_3 : w3.heap[x]? = some (.cells #[.int .u64 an, .int .u64 ad] 24 (0, 0)) := below_at hb3 (by first | omega | (simp; done) | (simp; omega)) (by (repeat (first | (with_reducible assumption) | (with_reducible exact alloc_at _ _) | ((with_reducible apply alloc_at'); (simp; done)) | (with_reducible apply alloc_at_lt) | (with_reducible apply heap_drew_at) | (with_reducible apply heap_drewN_at) | (with_reducible apply heap_setCell_same) | ((with_reducible apply heap_set_ne); (first | omega | (simp; done) | (simp; omega))))))
    have Y_3 : w3.heap[y]? = some (.cells #[.int .u64 bn, .int .u64 bd] 24 (0, 0)) := below_at hb3 (by first | omega | (simp; done) | (simp; omega)) (by (repeat (first | (with_reducible assumption) | (with_reducible exact alloc_at _ _) | ((with_reducible apply alloc_at'); (simp; done)) | (with_reducible apply alloc_at_lt) | (with_reducible apply heap_drew_at) | (with_reducible apply heap_drewN_at) | (with_reducible apply heap_setCell_same) | ((with_reducible apply heap_set_ne); (first | omega | (simp; done) | (simp; omega))))))
    have Z_3 : w3.heap[z]? = some (.cells #[.int .u64 cn, .int .u64 cd] 24 (0, 0)) := below_at hb3 (by first | omega | (simp; done) | (simp; omega)) (by (repeat (first | (with_reducible assumption) | (with_reducible exact alloc_at _ _) | ((with_reducible apply alloc_at'); (simp; done)) | (with_reducible apply alloc_at_lt) | (with_reducible apply heap_drew_at) | (with_reducible apply heap_drewN_at) | (with_reducible apply heap_setCell_same) | ((with_reducible apply heap_set_ne); (first | omega | (simp; done) | (simp; omega))))))
    have B3 : Below w.heap.size w w3 := Below.trans (by repeat (first | with_reducible assumption | with_reducible exact Below.refl _ _ | with_reducible refine Below.drew ?_ | with_reducible refine below_drewN ?_ _ | with_reducible refine below_alloc ?_ _ | with_reducible refine Below.alloc ?_ (by first | omega | (simp; done) | (simp; omega)) _ | with_reducible refine Below.setCell ?_ (by first | omega | (simp; done) | (simp; omega)) _)) (hb3.mono (by first | omega | (simp; done) | (simp; omega)))
    clear hb3 X_2 Y_2 Z_2
    clear Xc0 Xc1 Xcf
    clear Yc0 Yc1 Ycf
    clear Zc0 Zc1 Zcf
    have Xc0 : w3.cell? ⟨x, 0, none⟩ = some (.int .u64 an) := (blk_cell X_3 0).trans rfl
    have Xc1 : w3.cell? ⟨x, 1, none⟩ = some (.int .u64 ad) := (blk_cell X_3 1).trans rfl
    have Xcf := blk_free X_3
    have Yc0 : w3.cell? ⟨y, 0, none⟩ = some (.int .u64 bn) := (blk_cell Y_3 0).trans rfl
    have Yc1 : w3.cell? ⟨y, 1, none⟩ = some (.int .u64 bd) := (blk_cell Y_3 1).trans rfl
    have Ycf := blk_free Y_3
    have Zc0 : w3.cell? ⟨z, 0, none⟩ = some (.int .u64 cn) := (blk_cell Z_3 0).trans rfl
    have Zc1 : w3.cell? ⟨z, 1, none⟩ = some (.int .u64 cd) := (blk_cell Z_3 1).trans rfl
    have Zcf := blk_free Z_3
    have Xl3 : x < w3.heap.size := by omega
    have Yl3 : y < w3.heap.size := by omega
    have Zl3 : z < w3.heap.size := by omega
    go_wp2_with fail
    refine (H3.out _).mono ?_
    rintro e w4 ⟨rfl, hb4⟩
    have hs4 := hb4.size
    try simp only [World.size_alloc, World.size_setCell] at hs4
    have X_4 : w4.heap[x]? = some (.cells #[.int .u64 an, .int .u64 ad] 24 (0, 0)) := below_at hb4 (by first | omega | (simp; done) | (simp; omega)) (by (repeat (first | (with_reducible assumption) | (with_reducible exact alloc_at _ _) | ((with_reducible apply alloc_at'); (simp; done)) | (with_reducible apply alloc_at_lt) | (with_reducible apply heap_drew_at) | (with_reducible apply heap_drewN_at) | (with_reducible apply heap_setCell_same) | ((with_reducible apply heap_set_ne); (first | omega | (simp; done) | (simp; omega))))))
    have Y_4 : w4.heap[y]? = some (.cells #[.int .u64 bn, .int .u64 bd] 24 (0, 0)) := below_at hb4 (by first | omega | (simp; done) | (simp; omega)) (by (repeat (first | (with_reducible assumption) | (with_reducible exact alloc_at _ _) | ((with_reducible apply alloc_at'); (simp; done)) | (with_reducible apply alloc_at_lt) | (with_reducible apply heap_drew_at) | (with_reducible apply heap_drewN_at) | (with_reducible apply heap_setCell_same) | ((with_reducible apply heap_set_ne); (first | omega | (simp; done) | (simp; omega))))))
    have Z_4 : w4.heap[z]? = some (.cells #[.int .u64 cn, .int .u64 cd] 24 (0, 0)) := below_at hb4 (by first | omega | (simp; done) | (simp; omega)) (by (repeat (first | (with_reducible assumption) | (with_reducible exact alloc_at _ _) | ((with_reducible apply alloc_at'); (simp; done)) | (with_reducible apply alloc_at_lt) | (with_reducible apply heap_drew_at) | (with_reducible apply heap_drewN_at) | (with_reducible apply heap_setCell_same) | ((with_reducible apply heap_set_ne); (first | omega | (simp; done) | (simp; omega))))))
    have B4 : Below w.heap.size w w4 := Below.trans (by repeat (first | with_reducible assumption | with_reducible exact Below.refl _ _ | with_reducible refine Below.drew ?_ | with_reducible refine below_drewN ?_ _ | with_reducible refine below_alloc ?_ _ | with_reducible refine Below.alloc ?_ (by first | omega | (simp; done) | (simp; omega)) _ | with_reducible refine Below.setCell ?_ (by first | omega | (simp; done) | (simp; omega)) _)) (hb4.mono (by first | omega | (simp; done) | (simp; omega)))
    clear hb4 X_3 Y_3 Z_3
    clear Xc0 Xc1 Xcf
    clear Yc0 Yc1 Ycf
    clear Zc0 Zc1 Zcf
    have Xc0 : w4.cell? ⟨x, 0, none⟩ = some (.int .u64 an) := (blk_cell X_4 0).trans rfl
    have Xc1 : w4.cell? ⟨x, 1, none⟩ = some (.int .u64 ad) := (blk_cell X_4 1).trans rfl
    have Xcf := blk_free X_4
    have Yc0 : w4.cell? ⟨y, 0, none⟩ = some (.int .u64 bn) := (blk_cell Y_4 0).trans rfl
    have Yc1 : w4.cell? ⟨y, 1, none⟩ = some (.int .u64 bd) := (blk_cell Y_4 1).trans rfl
    have Ycf := blk_free Y_4
    have Zc0 : w4.cell? ⟨z, 0, none⟩ = some (.int .u64 cn) := (blk_cell Z_4 0).trans rfl
    have Zc1 : w4.cell? ⟨z, 1, none⟩ = some (.int .u64 cd) := (blk_cell Z_4 1).trans rfl
    have Zcf := blk_free Z_4
    have Xl4 : x < w4.heap.size := by omega
    have Yl4 : y < w4.heap.size := by omega
    have Zl4 : z < w4.heap.size := by omega
    go_wp2_with fail
    refine (H4.out _).mono ?_
    rintro e w5 ⟨rfl, hb5⟩
    have hs5 := hb5.size
    try simp only [World.size_alloc, World.size_setCell] at hs5
    have X_5 : w5.heap[x]? = some (.cells #[.int .u64 an, .int .u64 ad] 24 (0, 0)) := below_at hb5 (by first | omega | (simp; done) | (simp; omega)) (by (repeat (first | (with_reducible assumption) | (with_reducible exact alloc_at _ _) | ((with_reducible apply alloc_at'); (simp; done)) | (with_reducible apply alloc_at_lt) | (with_reducible apply heap_drew_at) | (with_reducible apply heap_drewN_at) | (with_reducible apply heap_setCell_same) | ((with_reducible apply heap_set_ne); (first | omega | (simp; done) | (simp; omega))))))
    have Y_5 : w5.heap[y]? = some (.cells #[.int .u64 bn, .int .u64 bd] 24 (0, 0)) := below_at hb5 (by first | omega | (simp; done) | (simp; omega)) (by (repeat (first | (with_reducible assumption) | (with_reducible exact alloc_at _ _) | ((with_reducible apply alloc_at'); (simp; done)) | (with_reducible apply alloc_at_lt) | (with_reducible apply heap_drew_at) | (with_reducible apply heap_drewN_at) | (with_reducible apply heap_setCell_same) | ((with_reducible apply heap_set_ne); (first | omega | (simp; done) | (simp; omega))))))
    have Z_5 : w5.heap[z]? = some (.cells #[.int .u64 cn, .int .u64 cd] 24 (0, 0)) := below_at hb5 (by first | omega | (simp; done) | (simp; omega)) (by (repeat (first | (with_reducible assumption) | (with_reducible exact alloc_at _ _) | ((with_reducible apply alloc_at'); (simp; done)) | (with_reducible apply alloc_at_lt) | (with_reducible apply heap_drew_at) | (with_reducible apply heap_drewN_at) | (with_reducible apply heap_setCell_same) | ((with_reducible apply heap_set_ne); (first | omega | (simp; done) | (simp; omega))))))
    have B5 : Below w.heap.size w w5 := Below.trans (by repeat (first | with_reducible assumption | with_reducible exact Below.refl _ _ | with_reducible refine Below.drew ?_ | with_reducible refine below_drewN ?_ _ | with_reducible refine below_alloc ?_ _ | with_reducible refine Below.alloc ?_ (by first | omega | (simp; done) | (simp; omega)) _ | with_reducible refine Below.setCell ?_ (by first | omega | (simp; done) | (simp; omega)) _)) (hb5.mono (by first | omega | (simp; done) | (simp; omega)))
    clear hb5 X_4 Y_4 Z_4
    clear Xc0 Xc1 Xcf
    clear Yc0 Yc1 Ycf
    clear Zc0 Zc1 Zcf
    have Xc0 : w5.cell? ⟨x, 0, none⟩ = some (.int .u64 an) := (blk_cell X_5 0).trans rfl
    have Xc1 : w5.cell? ⟨x, 1, none⟩ = some (.int .u64 ad) := (blk_cell X_5 1).trans rfl
    have Xcf := blk_free X_5
    have Yc0 : w5.cell? ⟨y, 0, none⟩ = some (.int .u64 bn) := (blk_cell Y_5 0).trans rfl
    have Yc1 : w5.cell? ⟨y, 1, none⟩ = some (.int .u64 bd) := (blk_cell Y_5 1).trans rfl
    have Ycf := blk_free Y_5
    have Zc0 : w5.cell? ⟨z, 0, none⟩ = some (.int .u64 cn) := (blk_cell Z_5 0).trans rfl
    have Zc1 : w5.cell? ⟨z, 1, none⟩ = some (.int .u64 cd) := (blk_cell Z_5 1).trans rfl
    have Zcf := blk_free Z_5
    have Xl5 : x < w5.heap.size := by omega
    have Yl5 : y < w5.heap.size := by omega
    have Zl5 : z < w5.heap.size := by omega
    go_upto_region 10 with fail
    go_cut [105] (fun s wx => s = .bool false ∧ wx = w5)
    case first =>
      go_wp2
      all_goals (go_meet; exact ⟨by first | rfl | (exfalso; omega) | (simp; omega) | (simp; done), by first | rfl | trivial⟩)
    case rest =>
      obtain ⟨rfl, rfl⟩ := hcut
      clear ht1 ht2
      go_wp2
      all_goals (go_ret; exact ⟨by first | rfl | simp | (exfalso; omega), (by repeat (first | with_reducible assumption | with_reducible exact Below.refl _ _ | with_reducible refine Below.drew ?_ | with_reducible refine below_drewN ?_ _ | with_reducible refine below_alloc ?_ _ | with_reducible refine Below.alloc ?_ (by first | omega | (simp; done) | (simp; omega)) _ | with_reducible refine Below.setCell ?_ (by first | omega | (simp; done) | (simp; omega)) _))⟩)
set_option maxRecDepth 100000 in
set_option maxHeartbeats 4000000 in
theorem order_ok (an ad bn bd cn cd k : Int) (w : World) (i j m : Int) (i0 : -1 ≤ i) (i1 : i ≤ 1) (k0 : 0 ≤ k) (k1 : k ≤ 65535) (ht1 : ¬ (i ≤ 0 ∧ j ≤ 0 ∧ 0 < m)) (ht2 : ¬ (0 ≤ i ∧ 0 ≤ j ∧ m < 0)) (b0 : 0 ≤ an) (b1 : an ≤ 1099511627776) (b2 : 0 ≤ ad) (b3 : ad ≤ 1099511627776) (hm1 : an * (k + 1) ≤ 72057594037927936) (hm2 : 0 ≤ an * (k + 1)) (hm3 : ad * (k + 1) ≤ 72057594037927936) (hm4 : 0 ≤ ad * (k + 1)) (H1 : Hid (∀ W, Calls Try.prog 11 #[.agg #[.int .u64 an, .int .u64 ad], .agg #[.int .u64 bn, .int .u64 bd]] W fun e w' => e = .returned (.tuple #[.int .i64 i, .int .i64 0]) ∧ Below W.heap.size W w')) (H2 : Hid (∀ W, Calls Try.prog 11 #[.agg #[.int .u64 bn, .int .u64 bd], .agg #[.int .u64 cn, .int .u64 cd]] W fun e w' => e = .returned (.tuple #[.int .i64 j, .int .i64 0]) ∧ Below W.heap.size W w')) (H3 : Hid (∀ W, Calls Try.prog 11 #[.agg #[.int .u64 an, .int .u64 ad], .agg #[.int .u64 cn, .int .u64 cd]] W fun e w' => e = .returned (.tuple #[.int .i64 m, .int .i64 0]) ∧ Below W.heap.size W w')) (H4 : Hid (∀ W, Calls Try.prog 11 #[.agg #[.int .u64 bn, .int .u64 bd], .agg #[.int .u64 an, .int .u64 ad]] W fun e w' => e = .returned (.tuple #[.int .i64 (-i), .int .i64 0]) ∧ Below W.heap.size W w')) (H5 : Hid (∀ W, Calls Try.prog 11 #[.agg #[.int .u64 an, .int .u64 ad], .agg #[.int .u64 (an * (k + 1)), .int .u64 (ad * (k + 1))]] W fun e w' => e = .returned (.tuple #[.int .i64 0, .int .i64 0]) ∧ Below W.heap.size W w')) :
    Calls Try.prog 4 #[.agg #[.int .u64 an, .int .u64 ad, .int .u64 bn, .int .u64 bd, .int .u64 cn, .int .u64 cd], .int .u16 k] w fun e w' => e = .returned (.bool true) ∧ Below w.heap.size w w' := by
  go_enter Try.func4, Try.ntmps4
  go_upto_region 1 with fail
  obtain ⟨wo, hwo⟩ : ∃ wo : World, wo = w.alloc (.cells #[.int .u64 an, .int .u64 ad, .int .u64 bn, .int .u64 bd, .int .u64 cn, .int .u64 cd] 38) := ⟨_, rfl⟩
  rw [← hwo]
  have hT : wo.heap[w.heap.size]? = some (.cells #[.int .u64 an, .int .u64 ad, .int .u64 bn, .int .u64 bd, .int .u64 cn, .int .u64 cd] 38 (0, 0)) := by rw [hwo]; exact alloc_at _ _
  have hB0 : Below w.heap.size w wo := by rw [hwo]; exact (by repeat (first | with_reducible assumption | with_reducible exact Below.refl _ _ | with_reducible refine Below.drew ?_ | with_reducible refine below_drewN ?_ _ | with_reducible refine below_alloc ?_ _ | with_reducible refine Below.alloc ?_ (by first | omega | (simp; done) | (simp; omega)) _ | with_reducible refine Below.setCell ?_ (by first | omega | (simp; done) | (simp; omega)) _))
  have hs0 : w.heap.size < wo.heap.size := by rw [hwo]; simp
  have c0 := blk_cell hT 0
  have c1 := blk_cell hT 1
  have c2 := blk_cell hT 2
  have c3 := blk_cell hT 3
  have c4 := blk_cell hT 4
  have c5 := blk_cell hT 5
  simp at c0 c1 c2 c3 c4 c5
  clear hwo hT
  go_cut [5, 6, 7] (fun s5 s6 s7 wx => ∃ x y z : Nat, s5 = .pointer (some ⟨x, 0, none⟩) ∧ s6 = .pointer (some ⟨y, 0, none⟩) ∧ s7 = .pointer (some ⟨z, 0, none⟩) ∧ Below w.heap.size w wx ∧
    wx.heap[x]? = some (.cells #[.int .u64 an, .int .u64 ad] 24 (0, 0)) ∧ wx.heap[y]? = some (.cells #[.int .u64 bn, .int .u64 bd] 24 (0, 0)) ∧ wx.heap[z]? = some (.cells #[.int .u64 cn, .int .u64 cd] 24 (0, 0)))
  case first =>
    go_region_held3 (fun w' => Below wo.heap.size wo w' ∧ (∀ b o, b < wo.heap.size → w'.cell? ⟨b, o, none⟩ = wo.cell? ⟨b, o, none⟩) ∧ ∀ b o, b < wo.heap.size → w'.frozen? ⟨b, o, none⟩ = wo.frozen? ⟨b, o, none⟩) (first | ((try go_split_ands); (try dsimp only); refine same_of ?_; (repeat (first | with_reducible assumption | with_reducible exact Below.refl _ _ | with_reducible refine Below.drew ?_ | with_reducible refine below_drewN ?_ _ | with_reducible refine below_alloc ?_ _ | with_reducible refine Below.alloc ?_ (by first | omega | (simp; done) | (simp; omega)) _ | with_reducible refine Below.setCell ?_ (by first | omega | (simp; done) | (simp; omega)) _)); done)) (fail)
    all_goals (go_wp2_with fail; go_meet; exact ⟨_, _, _, rfl, rfl, rfl, (by repeat (first | with_reducible assumption | with_reducible exact Below.refl _ _ | with_reducible refine Below.drew ?_ | with_reducible refine below_drewN ?_ _ | with_reducible refine below_alloc ?_ _ | with_reducible refine Below.alloc ?_ (by first | omega | (simp; done) | (simp; omega)) _ | with_reducible refine Below.setCell ?_ (by first | omega | (simp; done) | (simp; omega)) _)), (by (repeat (first | (with_reducible assumption) | (with_reducible exact alloc_at _ _) | ((with_reducible apply alloc_at'); (simp; done)) | (with_reducible apply alloc_at_lt) | (with_reducible apply heap_drew_at) | (with_reducible apply heap_drewN_at) | (with_reducible apply heap_setCell_same) | ((with_reducible apply heap_set_ne); (first | omega | (simp; done) | (simp; omega)))))), (by (repeat (first | (with_reducible assumption) | (with_reducible exact alloc_at _ _) | ((with_reducible apply alloc_at'); (simp; done)) | (with_reducible apply alloc_at_lt) | (with_reducible apply heap_drew_at) | (with_reducible apply heap_drewN_at) | (with_reducible apply heap_setCell_same) | ((with_reducible apply heap_set_ne); (first | omega | (simp; done) | (simp; omega)))))), (by (repeat (first | (with_reducible assumption) | (with_reducible exact alloc_at _ _) | ((with_reducible apply alloc_at'); (simp; done)) | (with_reducible apply alloc_at_lt) | (with_reducible apply heap_drew_at) | (with_reducible apply heap_drewN_at) | (with_reducible apply heap_setCell_same) | ((with_reducible apply heap_set_ne); (first | omega | (simp; done) | (simp; omega))))))⟩)
  case rest =>
    obtain ⟨x, y, z, rfl, rfl, rfl, hB, hX, hY, hZ⟩ := hcut
    clear c0 c1 c2 c3 c4 c5 hB0 hs0 wo
    have hx := lt_of_at hX
    have hy := lt_of_at hY
    have hz := lt_of_at hZ
    have hsz := hB.size
    go_wp2_with fail
    refine (awake2_any _).mono ?_
    rintro e w1 ⟨rfl, hb1⟩
    have hs1 := hb1.size
    try simp only [World.size_alloc, World.size_setCell] at hs1
    have X_1 : w1.heap[x]? = some (.cells #[.int .u64 an, .int .u64 ad] 24 (0, 0)) := below_at hb1 (by first | omega | (simp; done) | (simp; omega)) (by (repeat (first | (with_reducible assumption) | (with_reducible exact alloc_at _ _) | ((with_reducible apply alloc_at'); (simp; done)) | (with_reducible apply alloc_at_lt) | (with_reducible apply heap_drew_at) | (with_reducible apply heap_drewN_at) | (with_reducible apply heap_setCell_same) | ((with_reducible apply heap_set_ne); (first | omega | (simp; done) | (simp; omega))))))
    have Y_1 : w1.heap[y]? = some (.cells #[.int .u64 bn, .int .u64 bd] 24 (0, 0)) := below_at hb1 (by first | omega | (simp; done) | (simp; omega)) (by (repeat (first | (with_reducible assumption) | (with_reducible exact alloc_at _ _) | ((with_reducible apply alloc_at'); (simp; done)) | (with_reducible apply alloc_at_lt) | (with_reducible apply heap_drew_at) | (with_reducible apply heap_drewN_at) | (with_reducible apply heap_setCell_same) | ((with_reducible apply heap_set_ne); (first | omega | (simp; done) | (simp; omega))))))
    have Z_1 : w1.heap[z]? = some (.cells #[.int .u64 cn, .int .u64 cd] 24 (0, 0)) := below_at hb1 (by first | omega | (simp; done) | (simp; omega)) (by (repeat (first | (with_reducible assumption) | (with_reducible exact alloc_at _ _) | ((with_reducible apply alloc_at'); (simp; done)) | (with_reducible apply alloc_at_lt) | (with_reducible apply heap_drew_at) | (with_reducible apply heap_drewN_at) | (with_reducible apply heap_setCell_same) | ((with_reducible apply heap_set_ne); (first | omega | (simp; done) | (simp; omega))))))
    have B1 : Below w.heap.size w w1 := Below.trans (by repeat (first | with_reducible assumption | with_reducible exact Below.refl _ _ | with_reducible refine Below.drew ?_ | with_reducible refine below_drewN ?_ _ | with_reducible refine below_alloc ?_ _ | with_reducible refine Below.alloc ?_ (by first | omega | (simp; done) | (simp; omega)) _ | with_reducible refine Below.setCell ?_ (by first | omega | (simp; done) | (simp; omega)) _)) (hb1.mono (by first | omega | (simp; done) | (simp; omega)))
    clear hb1
    have Xc0 : w1.cell? ⟨x, 0, none⟩ = some (.int .u64 an) := (blk_cell X_1 0).trans rfl
    have Xc1 : w1.cell? ⟨x, 1, none⟩ = some (.int .u64 ad) := (blk_cell X_1 1).trans rfl
    have Xcf := blk_free X_1
    have Yc0 : w1.cell? ⟨y, 0, none⟩ = some (.int .u64 bn) := (blk_cell Y_1 0).trans rfl
    have Yc1 : w1.cell? ⟨y, 1, none⟩ = some (.int .u64 bd) := (blk_cell Y_1 1).trans rfl
    have Ycf := blk_free Y_1
    have Zc0 : w1.cell? ⟨z, 0, none⟩ = some (.int .u64 cn) := (blk_cell Z_1 0).trans rfl
    have Zc1 : w1.cell? ⟨z, 1, none⟩ = some (.int .u64 cd) := (blk_cell Z_1 1).trans rfl
    have Zcf := blk_free Z_1
    have Xl1 : x < w1.heap.size := by omega
    have Yl1 : y < w1.heap.size := by omega
    have Zl1 : z < w1.heap.size := by omega
    go_wp2_with fail
    refine (H1.out _).mono ?_
    rintro e w2 ⟨rfl, hb2⟩
    have hs2 := hb2.size
    try simp only [World.size_alloc, World.size_setCell] at hs2
    have X_2 : w2.heap[x]? = some (.cells #[.int .u64 an, .int .u64 ad] 24 (0, 0)) := below_at hb2 (by first | omega | (simp; done) | (simp; omega)) (by (repeat (first | (with_reducible assumption) | (with_reducible exact alloc_at _ _) | ((with_reducible apply alloc_at'); (simp; done)) | (with_reducible apply alloc_at_lt) | (with_reducible apply heap_drew_at) | (with_reducible apply heap_drewN_at) | (with_reducible apply heap_setCell_same) | ((with_reducible apply heap_set_ne); (first | omega | (simp; done) | (simp; omega))))))
    have Y_2 : w2.heap[y]? = some (.cells #[.int .u64 bn, .int .u64 bd] 24 (0, 0)) := below_at hb2 (by first | omega | (simp; done) | (simp; omega)) (by (repeat (first | (with_reducible assumption) | (with_reducible exact alloc_at _ _) | ((with_reducible apply alloc_at'); (simp; done)) | (with_reducible apply alloc_at_lt) | (with_reducible apply heap_drew_at) | (with_reducible apply heap_drewN_at) | (with_reducible apply heap_setCell_same) | ((with_reducible apply heap_set_ne); (first | omega | (simp; done) | (simp; omega))))))
    have Z_2 : w2.heap[z]? = some (.cells #[.int .u64 cn, .int .u64 cd] 24 (0, 0)) := below_at hb2 (by first | omega | (simp; done) | (simp; omega)) (by (repeat (first | (with_reducible assumption) | (with_reducible exact alloc_at _ _) | ((with_reducible apply alloc_at'); (simp; done)) | (with_reducible apply alloc_at_lt) | (with_reducible apply heap_drew_at) | (with_reducible apply heap_drewN_at) | (with_reducible apply heap_setCell_same) | ((with_reducible apply heap_set_ne); (first | omega | (simp; done) | (simp; omega))))))
    have B2 : Below w.heap.size w w2 := Below.trans (by repeat (first | with_reducible assumption | with_reducible exact Below.refl _ _ | with_reducible refine Below.drew ?_ | with_reducible refine below_drewN ?_ _ | with_reducible refine below_alloc ?_ _ | with_reducible refine Below.alloc ?_ (by first | omega | (simp; done) | (simp; omega)) _ | with_reducible refine Below.setCell ?_ (by first | omega | (simp; done) | (simp; omega)) _)) (hb2.mono (by first | omega | (simp; done) | (simp; omega)))
    clear hb2 X_1 Y_1 Z_1
    clear Xc0 Xc1 Xcf
    clear Yc0 Yc1 Ycf
    clear Zc0 Zc1 Zcf
    have Xc0 : w2.cell? ⟨x, 0, none⟩ = some (.int .u64 an) := (blk_cell X_2 0).trans rfl
    have Xc1 : w2.cell? ⟨x, 1, none⟩ = some (.int .u64 ad) := (blk_cell X_2 1).trans rfl
    have Xcf := blk_free X_2
    have Yc0 : w2.cell? ⟨y, 0, none⟩ = some (.int .u64 bn) := (blk_cell Y_2 0).trans rfl
    have Yc1 : w2.cell? ⟨y, 1, none⟩ = some (.int .u64 bd) := (blk_cell Y_2 1).trans rfl
    have Ycf := blk_free Y_2
    have Zc0 : w2.cell? ⟨z, 0, none⟩ = some (.int .u64 cn) := (blk_cell Z_2 0).trans rfl
    have Zc1 : w2.cell? ⟨z, 1, none⟩ = some (.int .u64 cd) := (blk_cell Z_2 1).trans rfl
    have Zcf := blk_free Z_2
    have Xl2 : x < w2.heap.size := by omega
    have Yl2 : y < w2.heap.size := by omega
    have Zl2 : z < w2.heap.size := by omega
    go_wp2_with fail
    refine (H2.out _).mono ?_
    rintro e w3 ⟨rfl, hb3⟩
    have hs3 := hb3.size
    try simp only [World.size_alloc, World.size_setCell] at hs3
    have X_3 : w3.heap[x]? = some (.cells #[.int .u64 an, .int .u64 ad] 24 (0, 0)) := below_at hb3 (by first | omega | (simp; done) | (simp; omega)) (by (repeat (first | (with_reducible assumption) | (with_reducible exact alloc_at _ _) | ((with_reducible apply alloc_at'); (simp; done)) | (with_reducible apply alloc_at_lt) | (with_reducible apply heap_drew_at) | (with_reducible apply heap_drewN_at) | (with_reducible apply heap_setCell_same) | ((with_reducible apply heap_set_ne); (first | omega | (simp; done) | (simp; omega))))))
    have Y_3 : w3.heap[y]? = some (.cells #[.int .u64 bn, .int .u64 bd] 24 (0, 0)) := below_at hb3 (by first | omega | (simp; done) | (simp; omega)) (by (repeat (first | (with_reducible assumption) | (with_reducible exact alloc_at _ _) | ((with_reducible apply alloc_at'); (simp; done)) | (with_reducible apply alloc_at_lt) | (with_reducible apply heap_drew_at) | (with_reducible apply heap_drewN_at) | (with_reducible apply heap_setCell_same) | ((with_reducible apply heap_set_ne); (first | omega | (simp; done) | (simp; omega))))))
    have Z_3 : w3.heap[z]? = some (.cells #[.int .u64 cn, .int .u64 cd] 24 (0, 0)) := below_at hb3 (by first | omega | (simp; done) | (simp; omega)) (by (repeat (first | (with_reducible assumption) | (with_reducible exact alloc_at _ _) | ((with_reducible apply alloc_at'); (simp; done)) | (with_reducible apply alloc_at_lt) | (with_reducible apply heap_drew_at) | (with_reducible apply heap_drewN_at) | (with_reducible apply heap_setCell_same) | ((with_reducible apply heap_set_ne); (first | omega | (simp; done) | (simp; omega))))))
    have B3 : Below w.heap.size w w3 := Below.trans (by repeat (first | with_reducible assumption | with_reducible exact Below.refl _ _ | with_reducible refine Below.drew ?_ | with_reducible refine below_drewN ?_ _ | with_reducible refine below_alloc ?_ _ | with_reducible refine Below.alloc ?_ (by first | omega | (simp; done) | (simp; omega)) _ | with_reducible refine Below.setCell ?_ (by first | omega | (simp; done) | (simp; omega)) _)) (hb3.mono (by first | omega | (simp; done) | (simp; omega)))
    clear hb3 X_2 Y_2 Z_2
    clear Xc0 Xc1 Xcf
    clear Yc0 Yc1 Ycf
    clear Zc0 Zc1 Zcf
    have Xc0 : w3.cell? ⟨x, 0, none⟩ = some (.int .u64 an) := (blk_cell X_3 0).trans rfl
    have Xc1 : w3.cell? ⟨x, 1, none⟩ = some (.int .u64 ad) := (blk_cell X_3 1).trans rfl
    have Xcf := blk_free X_3
    have Yc0 : w3.cell? ⟨y, 0, none⟩ = some (.int .u64 bn) := (blk_cell Y_3 0).trans rfl
    have Yc1 : w3.cell? ⟨y, 1, none⟩ = some (.int .u64 bd) := (blk_cell Y_3 1).trans rfl
    have Ycf := blk_free Y_3
    have Zc0 : w3.cell? ⟨z, 0, none⟩ = some (.int .u64 cn) := (blk_cell Z_3 0).trans rfl
    have Zc1 : w3.cell? ⟨z, 1, none⟩ = some (.int .u64 cd) := (blk_cell Z_3 1).trans rfl
    have Zcf := blk_free Z_3
    have Xl3 : x < w3.heap.size := by omega
    have Yl3 : y < w3.heap.size := by omega
    have Zl3 : z < w3.heap.size := by omega
    go_wp2_with fail
    refine (H3.out _).mono ?_
    rintro e w4 ⟨rfl, hb4⟩
    have hs4 := hb4.size
    try simp only [World.size_alloc, World.size_setCell] at hs4
    have X_4 : w4.heap[x]? = some (.cells #[.int .u64 an, .int .u64 ad] 24 (0, 0)) := below_at hb4 (by first | omega | (simp; done) | (simp; omega)) (by (repeat (first | (with_reducible assumption) | (with_reducible exact alloc_at _ _) | ((with_reducible apply alloc_at'); (simp; done)) | (with_reducible apply alloc_at_lt) | (with_reducible apply heap_drew_at) | (with_reducible apply heap_drewN_at) | (with_reducible apply heap_setCell_same) | ((with_reducible apply heap_set_ne); (first | omega | (simp; done) | (simp; omega))))))
    have Y_4 : w4.heap[y]? = some (.cells #[.int .u64 bn, .int .u64 bd] 24 (0, 0)) := below_at hb4 (by first | omega | (simp; done) | (simp; omega)) (by (repeat (first | (with_reducible assumption) | (with_reducible exact alloc_at _ _) | ((with_reducible apply alloc_at'); (simp; done)) | (with_reducible apply alloc_at_lt) | (with_reducible apply heap_drew_at) | (with_reducible apply heap_drewN_at) | (with_reducible apply heap_setCell_same) | ((with_reducible apply heap_set_ne); (first | omega | (simp; done) | (simp; omega))))))
    have Z_4 : w4.heap[z]? = some (.cells #[.int .u64 cn, .int .u64 cd] 24 (0, 0)) := below_at hb4 (by first | omega | (simp; done) | (simp; omega)) (by (repeat (first | (with_reducible assumption) | (with_reducible exact alloc_at _ _) | ((with_reducible apply alloc_at'); (simp; done)) | (with_reducible apply alloc_at_lt) | (with_reducible apply heap_drew_at) | (with_reducible apply heap_drewN_at) | (with_reducible apply heap_setCell_same) | ((with_reducible apply heap_set_ne); (first | omega | (simp; done) | (simp; omega))))))
    have B4 : Below w.heap.size w w4 := Below.trans (by repeat (first | with_reducible assumption | with_reducible exact Below.refl _ _ | with_reducible refine Below.drew ?_ | with_reducible refine below_drewN ?_ _ | with_reducible refine below_alloc ?_ _ | with_reducible refine Below.alloc ?_ (by first | omega | (simp; done) | (simp; omega)) _ | with_reducible refine Below.setCell ?_ (by first | omega | (simp; done) | (simp; omega)) _)) (hb4.mono (by first | omega | (simp; done) | (simp; omega)))
    clear hb4 X_3 Y_3 Z_3
    clear Xc0 Xc1 Xcf
    clear Yc0 Yc1 Ycf
    clear Zc0 Zc1 Zcf
    have Xc0 : w4.cell? ⟨x, 0, none⟩ = some (.int .u64 an) := (blk_cell X_4 0).trans rfl
    have Xc1 : w4.cell? ⟨x, 1, none⟩ = some (.int .u64 ad) := (blk_cell X_4 1).trans rfl
    have Xcf := blk_free X_4
    have Yc0 : w4.cell? ⟨y, 0, none⟩ = some (.int .u64 bn) := (blk_cell Y_4 0).trans rfl
    have Yc1 : w4.cell? ⟨y, 1, none⟩ = some (.int .u64 bd) := (blk_cell Y_4 1).trans rfl
    have Ycf := blk_free Y_4
    have Zc0 : w4.cell? ⟨z, 0, none⟩ = some (.int .u64 cn) := (blk_cell Z_4 0).trans rfl
    have Zc1 : w4.cell? ⟨z, 1, none⟩ = some (.int .u64 cd) := (blk_cell Z_4 1).trans rfl
    have Zcf := blk_free Z_4
    have Xl4 : x < w4.heap.size := by omega
    have Yl4 : y < w4.heap.size := by omega
    have Zl4 : z < w4.heap.size := by omega
    go_wp2_with fail
    refine (H4.out _).mono ?_
    rintro e w5 ⟨rfl, hb5⟩
    have hs5 := hb5.size
    try simp only [World.size_alloc, World.size_setCell] at hs5
    have X_5 : w5.heap[x]? = some (.cells #[.int .u64 an, .int .u64 ad] 24 (0, 0)) := below_at hb5 (by first | omega | (simp; done) | (simp; omega)) (by (repeat (first | (with_reducible assumption) | (with_reducible exact alloc_at _ _) | ((with_reducible apply alloc_at'); (simp; done)) | (with_reducible apply alloc_at_lt) | (with_reducible apply heap_drew_at) | (with_reducible apply heap_drewN_at) | (with_reducible apply heap_setCell_same) | ((with_reducible apply heap_set_ne); (first | omega | (simp; done) | (simp; omega))))))
    have Y_5 : w5.heap[y]? = some (.cells #[.int .u64 bn, .int .u64 bd] 24 (0, 0)) := below_at hb5 (by first | omega | (simp; done) | (simp; omega)) (by (repeat (first | (with_reducible assumption) | (with_reducible exact alloc_at _ _) | ((with_reducible apply alloc_at'); (simp; done)) | (with_reducible apply alloc_at_lt) | (with_reducible apply heap_drew_at) | (with_reducible apply heap_drewN_at) | (with_reducible apply heap_setCell_same) | ((with_reducible apply heap_set_ne); (first | omega | (simp; done) | (simp; omega))))))
    have Z_5 : w5.heap[z]? = some (.cells #[.int .u64 cn, .int .u64 cd] 24 (0, 0)) := below_at hb5 (by first | omega | (simp; done) | (simp; omega)) (by (repeat (first | (with_reducible assumption) | (with_reducible exact alloc_at _ _) | ((with_reducible apply alloc_at'); (simp; done)) | (with_reducible apply alloc_at_lt) | (with_reducible apply heap_drew_at) | (with_reducible apply heap_drewN_at) | (with_reducible apply heap_setCell_same) | ((with_reducible apply heap_set_ne); (first | omega | (simp; done) | (simp; omega))))))
    have B5 : Below w.heap.size w w5 := Below.trans (by repeat (first | with_reducible assumption | with_reducible exact Below.refl _ _ | with_reducible refine Below.drew ?_ | with_reducible refine below_drewN ?_ _ | with_reducible refine below_alloc ?_ _ | with_reducible refine Below.alloc ?_ (by first | omega | (simp; done) | (simp; omega)) _ | with_reducible refine Below.setCell ?_ (by first | omega | (simp; done) | (simp; omega)) _)) (hb5.mono (by first | omega | (simp; done) | (simp; omega)))
    clear hb5 X_4 Y_4 Z_4
    clear Xc0 Xc1 Xcf
    clear Yc0 Yc1 Ycf
    clear Zc0 Zc1 Zcf
    have Xc0 : w5.cell? ⟨x, 0, none⟩ = some (.int .u64 an) := (blk_cell X_5 0).trans rfl
    have Xc1 : w5.cell? ⟨x, 1, none⟩ = some (.int .u64 ad) := (blk_cell X_5 1).trans rfl
    have Xcf := blk_free X_5
    have Yc0 : w5.cell? ⟨y, 0, none⟩ = some (.int .u64 bn) := (blk_cell Y_5 0).trans rfl
    have Yc1 : w5.cell? ⟨y, 1, none⟩ = some (.int .u64 bd) := (blk_cell Y_5 1).trans rfl
    have Ycf := blk_free Y_5
    have Zc0 : w5.cell? ⟨z, 0, none⟩ = some (.int .u64 cn) := (blk_cell Z_5 0).trans rfl
    have Zc1 : w5.cell? ⟨z, 1, none⟩ = some (.int .u64 cd) := (blk_cell Z_5 1).trans rfl
    have Zcf := blk_free Z_5
    have Xl5 : x < w5.heap.size := by omega
    have Yl5 : y < w5.heap.size := by omega
    have Zl5 : z < w5.heap.size := by omega
    go_upto_region 10 with fail
    go_cut [105] (fun s wx => s = .bool false ∧ wx = w5)
    case first =>
      go_wp2
      all_goals (go_meet; exact ⟨by first | rfl | (exfalso; omega) | (simp; omega) | (simp; done), by first | rfl | trivial⟩)
    case rest =>
      obtain ⟨rfl, rfl⟩ := hcut
      clear ht1 ht2
      go_wp2_with fail
      refine (H5.out _).mono ?_
      rintro e w6 ⟨rfl, hb6⟩
      have hs6 := hb6.size
      try simp only [World.size_alloc, World.size_setCell] at hs6
      have X_6 : w6.heap[x]? = some (.cells #[.int .u64 an, .int .u64 ad] 24 (0, 0)) := below_at hb6 (by first | omega | (simp; done) | (simp; omega)) (by (repeat (first | (with_reducible assumption) | (with_reducible exact alloc_at _ _) | ((with_reducible apply alloc_at'); (simp; done)) | (with_reducible apply alloc_at_lt) | (with_reducible apply heap_drew_at) | (with_reducible apply heap_drewN_at) | (with_reducible apply heap_setCell_same) | ((with_reducible apply heap_set_ne); (first | omega | (simp; done) | (simp; omega))))))
      have Y_6 : w6.heap[y]? = some (.cells #[.int .u64 bn, .int .u64 bd] 24 (0, 0)) := below_at hb6 (by first | omega | (simp; done) | (simp; omega)) (by (repeat (first | (with_reducible assumption) | (with_reducible exact alloc_at _ _) | ((with_reducible apply alloc_at'); (simp; done)) | (with_reducible apply alloc_at_lt) | (with_reducible apply heap_drew_at) | (with_reducible apply heap_drewN_at) | (with_reducible apply heap_setCell_same) | ((with_reducible apply heap_set_ne); (first | omega | (simp; done) | (simp; omega))))))
      have Z_6 : w6.heap[z]? = some (.cells #[.int .u64 cn, .int .u64 cd] 24 (0, 0)) := below_at hb6 (by first | omega | (simp; done) | (simp; omega)) (by (repeat (first | (with_reducible assumption) | (with_reducible exact alloc_at _ _) | ((with_reducible apply alloc_at'); (simp; done)) | (with_reducible apply alloc_at_lt) | (with_reducible apply heap_drew_at) | (with_reducible apply heap_drewN_at) | (with_reducible apply heap_setCell_same) | ((with_reducible apply heap_set_ne); (first | omega | (simp; done) | (simp; omega))))))
      have B6 : Below w.heap.size w w6 := Below.trans (by repeat (first | with_reducible assumption | with_reducible exact Below.refl _ _ | with_reducible refine Below.drew ?_ | with_reducible refine below_drewN ?_ _ | with_reducible refine below_alloc ?_ _ | with_reducible refine Below.alloc ?_ (by first | omega | (simp; done) | (simp; omega)) _ | with_reducible refine Below.setCell ?_ (by first | omega | (simp; done) | (simp; omega)) _)) (hb6.mono (by first | omega | (simp; done) | (simp; omega)))
      clear hb6 X_5 Y_5 Z_5
      clear Xc0 Xc1 Xcf
      clear Yc0 Yc1 Ycf
      clear Zc0 Zc1 Zcf
      have Xc0 : w6.cell? ⟨x, 0, none⟩ = some (.int .u64 an) := (blk_cell X_6 0).trans rfl
      have Xc1 : w6.cell? ⟨x, 1, none⟩ = some (.int .u64 ad) := (blk_cell X_6 1).trans rfl
      have Xcf := blk_free X_6
      have Yc0 : w6.cell? ⟨y, 0, none⟩ = some (.int .u64 bn) := (blk_cell Y_6 0).trans rfl
      have Yc1 : w6.cell? ⟨y, 1, none⟩ = some (.int .u64 bd) := (blk_cell Y_6 1).trans rfl
      have Ycf := blk_free Y_6
      have Zc0 : w6.cell? ⟨z, 0, none⟩ = some (.int .u64 cn) := (blk_cell Z_6 0).trans rfl
      have Zc1 : w6.cell? ⟨z, 1, none⟩ = some (.int .u64 cd) := (blk_cell Z_6 1).trans rfl
      have Zcf := blk_free Z_6
      have Xl6 : x < w6.heap.size := by omega
      have Yl6 : y < w6.heap.size := by omega
      have Zl6 : z < w6.heap.size := by omega
      go_wp2
      all_goals (go_ret; exact ⟨by first | rfl | simp | (exfalso; omega), (by repeat (first | with_reducible assumption | with_reducible exact Below.refl _ _ | with_reducible refine Below.drew ?_ | with_reducible refine below_drewN ?_ _ | with_reducible refine below_alloc ?_ _ | with_reducible refine Below.alloc ?_ (by first | omega | (simp; done) | (simp; omega)) _ | with_reducible refine Below.setCell ?_ (by first | omega | (simp; done) | (simp; omega)) _))⟩)
end Go.Proofs.Ytbkopmgfkokmgaa
