/- The walk of RatioBack: what was added can be taken away again, sums and products do not hang on their order. Asked: that the numbers are words. -/
import Derived.Test.YtbkopmgfkokmgaaFrac2
import Derived.Test.YtbkopmgfkokmgaaBack
import Derived.Test.YtbkopmgfkokmgaaAwk2
import Derived.Deep.DeepCutAuto
namespace Go.Proofs.Ytbkopmgfkokmgaa
open Go.RowKit
set_option maxRecDepth 100000 in
set_option maxHeartbeats 4000000 in
theorem back_4 (an ad bn bd sn sd pn pd pe  : Int) (w : World) 
    (HA : Hid (∀ W, Calls Try.prog 15 #[.agg #[.int .u64 an, .int .u64 ad], .agg #[.int .u64 bn, .int .u64 bd]] W fun e w' => e = .returned (.tuple #[.agg #[.int .u64 sn, .int .u64 sd], .int .i64 4]) ∧ Below W.heap.size W w')) (HB : Hid (∀ W, Calls Try.prog 15 #[.agg #[.int .u64 bn, .int .u64 bd], .agg #[.int .u64 an, .int .u64 ad]] W fun e w' => e = .returned (.tuple #[.agg #[.int .u64 sn, .int .u64 sd], .int .i64 4]) ∧ Below W.heap.size W w')) (HM : Hid (∀ W, Calls Try.prog 16 #[.agg #[.int .u64 an, .int .u64 ad], .agg #[.int .u64 bn, .int .u64 bd]] W fun e w' => e = .returned (.tuple #[.agg #[.int .u64 pn, .int .u64 pd], .int .i64 pe]) ∧ Below W.heap.size W w')) (HN : Hid (∀ W, Calls Try.prog 16 #[.agg #[.int .u64 bn, .int .u64 bd], .agg #[.int .u64 an, .int .u64 ad]] W fun e w' => e = .returned (.tuple #[.agg #[.int .u64 pn, .int .u64 pd], .int .i64 pe]) ∧ Below W.heap.size W w')) :
    Calls Try.prog 7 #[.agg #[.int .u64 an, .int .u64 ad], .agg #[.int .u64 bn, .int .u64 bd]] w fun e w' => e = .returned (.bool true) ∧ Below w.heap.size w w' := by
  go_enter Try.func7, Try.ntmps7
  go_wp2_with fail
  refine (awake2_any _).mono ?_
  rintro e w1 ⟨rfl, hb1⟩
  have hs1 := hb1.size
  try simp only [World.size_alloc, World.size_setCell] at hs1
  have A_1 : w1.heap[w.heap.size]? = some (.cells #[.int .u64 an, .int .u64 ad] 24 (0, 0)) := below_at hb1 (by first | omega | (simp; done) | (simp; omega)) (by (repeat (first | (with_reducible assumption) | (with_reducible exact alloc_at _ _) | ((with_reducible apply alloc_at'); (simp; done)) | (with_reducible apply alloc_at_lt) | (with_reducible apply heap_drew_at) | (with_reducible apply heap_drewN_at) | (with_reducible apply heap_setCell_same) | ((with_reducible apply heap_set_ne); (first | omega | (dsimp only; omega) | (simp; done) | (simp; omega))) | (with_reducible apply setRow_at) | ((with_reducible apply setRow_ne); (first | omega | (dsimp only; omega) | (simp; done) | (simp; omega))))))
  have B_1 : w1.heap[w.heap.size + 1]? = some (.cells #[.int .u64 bn, .int .u64 bd] 24 (0, 0)) := below_at hb1 (by first | omega | (simp; done) | (simp; omega)) (by (repeat (first | (with_reducible assumption) | (with_reducible exact alloc_at _ _) | ((with_reducible apply alloc_at'); (simp; done)) | (with_reducible apply alloc_at_lt) | (with_reducible apply heap_drew_at) | (with_reducible apply heap_drewN_at) | (with_reducible apply heap_setCell_same) | ((with_reducible apply heap_set_ne); (first | omega | (dsimp only; omega) | (simp; done) | (simp; omega))) | (with_reducible apply setRow_at) | ((with_reducible apply setRow_ne); (first | omega | (dsimp only; omega) | (simp; done) | (simp; omega))))))
  have B1 : Below w.heap.size w w1 := Below.trans (by repeat (first | with_reducible assumption | with_reducible exact Below.refl _ _ | with_reducible refine Below.drew ?_ | with_reducible refine below_drewN ?_ _ | with_reducible refine below_alloc ?_ _ | with_reducible refine Below.alloc ?_ (by first | omega | (simp; done) | (simp; omega)) _ | with_reducible refine Below.setCell ?_ (by first | omega | (simp; done) | (simp; omega)) _ | with_reducible refine below_setRow ?_ (by first | omega | (simp; done) | (simp; omega)) _)) (hb1.mono (by first | omega | (simp; done) | (simp; omega)))
  clear hb1
  have Ac0 : w1.cell? ⟨w.heap.size, 0, none⟩ = some (.int .u64 an) := (blk_cell A_1 0).trans rfl
  have Ac1 : w1.cell? ⟨w.heap.size, 1, none⟩ = some (.int .u64 ad) := (blk_cell A_1 1).trans rfl
  have Acf := blk_free A_1
  have Bc0 : w1.cell? ⟨w.heap.size + 1, 0, none⟩ = some (.int .u64 bn) := (blk_cell B_1 0).trans rfl
  have Bc1 : w1.cell? ⟨w.heap.size + 1, 1, none⟩ = some (.int .u64 bd) := (blk_cell B_1 1).trans rfl
  have Bcf := blk_free B_1
  have Al1 : w.heap.size < w1.heap.size := by omega
  have Bl1 : w.heap.size + 1 < w1.heap.size := by omega
  go_wp2_with fail
  refine (HA.out _).mono ?_
  rintro e w2 ⟨rfl, hb2⟩
  have hs2 := hb2.size
  try simp only [World.size_alloc, World.size_setCell] at hs2
  have A_2 : w2.heap[w.heap.size]? = some (.cells #[.int .u64 an, .int .u64 ad] 24 (0, 0)) := below_at hb2 (by first | omega | (simp; done) | (simp; omega)) (by (repeat (first | (with_reducible assumption) | (with_reducible exact alloc_at _ _) | ((with_reducible apply alloc_at'); (simp; done)) | (with_reducible apply alloc_at_lt) | (with_reducible apply heap_drew_at) | (with_reducible apply heap_drewN_at) | (with_reducible apply heap_setCell_same) | ((with_reducible apply heap_set_ne); (first | omega | (dsimp only; omega) | (simp; done) | (simp; omega))) | (with_reducible apply setRow_at) | ((with_reducible apply setRow_ne); (first | omega | (dsimp only; omega) | (simp; done) | (simp; omega))))))
  have B_2 : w2.heap[w.heap.size + 1]? = some (.cells #[.int .u64 bn, .int .u64 bd] 24 (0, 0)) := below_at hb2 (by first | omega | (simp; done) | (simp; omega)) (by (repeat (first | (with_reducible assumption) | (with_reducible exact alloc_at _ _) | ((with_reducible apply alloc_at'); (simp; done)) | (with_reducible apply alloc_at_lt) | (with_reducible apply heap_drew_at) | (with_reducible apply heap_drewN_at) | (with_reducible apply heap_setCell_same) | ((with_reducible apply heap_set_ne); (first | omega | (dsimp only; omega) | (simp; done) | (simp; omega))) | (with_reducible apply setRow_at) | ((with_reducible apply setRow_ne); (first | omega | (dsimp only; omega) | (simp; done) | (simp; omega))))))
  have B2 : Below w.heap.size w w2 := Below.trans (by repeat (first | with_reducible assumption | with_reducible exact Below.refl _ _ | with_reducible refine Below.drew ?_ | with_reducible refine below_drewN ?_ _ | with_reducible refine below_alloc ?_ _ | with_reducible refine Below.alloc ?_ (by first | omega | (simp; done) | (simp; omega)) _ | with_reducible refine Below.setCell ?_ (by first | omega | (simp; done) | (simp; omega)) _ | with_reducible refine below_setRow ?_ (by first | omega | (simp; done) | (simp; omega)) _)) (hb2.mono (by first | omega | (simp; done) | (simp; omega)))
  clear hb2 A_1 B_1
  clear Ac0 Ac1 Acf
  clear Bc0 Bc1 Bcf
  have Ac0 : w2.cell? ⟨w.heap.size, 0, none⟩ = some (.int .u64 an) := (blk_cell A_2 0).trans rfl
  have Ac1 : w2.cell? ⟨w.heap.size, 1, none⟩ = some (.int .u64 ad) := (blk_cell A_2 1).trans rfl
  have Acf := blk_free A_2
  have Bc0 : w2.cell? ⟨w.heap.size + 1, 0, none⟩ = some (.int .u64 bn) := (blk_cell B_2 0).trans rfl
  have Bc1 : w2.cell? ⟨w.heap.size + 1, 1, none⟩ = some (.int .u64 bd) := (blk_cell B_2 1).trans rfl
  have Bcf := blk_free B_2
  have Al2 : w.heap.size < w2.heap.size := by omega
  have Bl2 : w.heap.size + 1 < w2.heap.size := by omega
  go_wp2_with fail
  refine (HB.out _).mono ?_
  rintro e w3 ⟨rfl, hb3⟩
  have hs3 := hb3.size
  try simp only [World.size_alloc, World.size_setCell] at hs3
  have A_3 : w3.heap[w.heap.size]? = some (.cells #[.int .u64 an, .int .u64 ad] 24 (0, 0)) := below_at hb3 (by first | omega | (simp; done) | (simp; omega)) (by (repeat (first | (with_reducible assumption) | (with_reducible exact alloc_at _ _) | ((with_reducible apply alloc_at'); (simp; done)) | (with_reducible apply alloc_at_lt) | (with_reducible apply heap_drew_at) | (with_reducible apply heap_drewN_at) | (with_reducible apply heap_setCell_same) | ((with_reducible apply heap_set_ne); (first | omega | (dsimp only; omega) | (simp; done) | (simp; omega))) | (with_reducible apply setRow_at) | ((with_reducible apply setRow_ne); (first | omega | (dsimp only; omega) | (simp; done) | (simp; omega))))))
  have B_3 : w3.heap[w.heap.size + 1]? = some (.cells #[.int .u64 bn, .int .u64 bd] 24 (0, 0)) := below_at hb3 (by first | omega | (simp; done) | (simp; omega)) (by (repeat (first | (with_reducible assumption) | (with_reducible exact alloc_at _ _) | ((with_reducible apply alloc_at'); (simp; done)) | (with_reducible apply alloc_at_lt) | (with_reducible apply heap_drew_at) | (with_reducible apply heap_drewN_at) | (with_reducible apply heap_setCell_same) | ((with_reducible apply heap_set_ne); (first | omega | (dsimp only; omega) | (simp; done) | (simp; omega))) | (with_reducible apply setRow_at) | ((with_reducible apply setRow_ne); (first | omega | (dsimp only; omega) | (simp; done) | (simp; omega))))))
  have S_3 : w3.heap[w2.heap.size]? = some (.cells #[.int .u64 sn, .int .u64 sd] 24 (0, 0)) := below_at hb3 (by first | omega | (simp; done) | (simp; omega)) (by (repeat (first | (with_reducible assumption) | (with_reducible exact alloc_at _ _) | ((with_reducible apply alloc_at'); (simp; done)) | (with_reducible apply alloc_at_lt) | (with_reducible apply heap_drew_at) | (with_reducible apply heap_drewN_at) | (with_reducible apply heap_setCell_same) | ((with_reducible apply heap_set_ne); (first | omega | (dsimp only; omega) | (simp; done) | (simp; omega))) | (with_reducible apply setRow_at) | ((with_reducible apply setRow_ne); (first | omega | (dsimp only; omega) | (simp; done) | (simp; omega))))))
  have B3 : Below w.heap.size w w3 := Below.trans (by repeat (first | with_reducible assumption | with_reducible exact Below.refl _ _ | with_reducible refine Below.drew ?_ | with_reducible refine below_drewN ?_ _ | with_reducible refine below_alloc ?_ _ | with_reducible refine Below.alloc ?_ (by first | omega | (simp; done) | (simp; omega)) _ | with_reducible refine Below.setCell ?_ (by first | omega | (simp; done) | (simp; omega)) _ | with_reducible refine below_setRow ?_ (by first | omega | (simp; done) | (simp; omega)) _)) (hb3.mono (by first | omega | (simp; done) | (simp; omega)))
  clear hb3 A_2 B_2
  clear Ac0 Ac1 Acf
  clear Bc0 Bc1 Bcf
  have Ac0 : w3.cell? ⟨w.heap.size, 0, none⟩ = some (.int .u64 an) := (blk_cell A_3 0).trans rfl
  have Ac1 : w3.cell? ⟨w.heap.size, 1, none⟩ = some (.int .u64 ad) := (blk_cell A_3 1).trans rfl
  have Acf := blk_free A_3
  have Bc0 : w3.cell? ⟨w.heap.size + 1, 0, none⟩ = some (.int .u64 bn) := (blk_cell B_3 0).trans rfl
  have Bc1 : w3.cell? ⟨w.heap.size + 1, 1, none⟩ = some (.int .u64 bd) := (blk_cell B_3 1).trans rfl
  have Bcf := blk_free B_3
  have Sc0 : w3.cell? ⟨w2.heap.size, 0, none⟩ = some (.int .u64 sn) := (blk_cell S_3 0).trans rfl
  have Sc1 : w3.cell? ⟨w2.heap.size, 1, none⟩ = some (.int .u64 sd) := (blk_cell S_3 1).trans rfl
  have Scf := blk_free S_3
  have Al3 : w.heap.size < w3.heap.size := by omega
  have Bl3 : w.heap.size + 1 < w3.heap.size := by omega
  have Sl3 : w2.heap.size < w3.heap.size := by omega
  go_wp2_with fail
  refine (HM.out _).mono ?_
  rintro e w4 ⟨rfl, hb4⟩
  have hs4 := hb4.size
  try simp only [World.size_alloc, World.size_setCell] at hs4
  have A_4 : w4.heap[w.heap.size]? = some (.cells #[.int .u64 an, .int .u64 ad] 24 (0, 0)) := below_at hb4 (by first | omega | (simp; done) | (simp; omega)) (by (repeat (first | (with_reducible assumption) | (with_reducible exact alloc_at _ _) | ((with_reducible apply alloc_at'); (simp; done)) | (with_reducible apply alloc_at_lt) | (with_reducible apply heap_drew_at) | (with_reducible apply heap_drewN_at) | (with_reducible apply heap_setCell_same) | ((with_reducible apply heap_set_ne); (first | omega | (dsimp only; omega) | (simp; done) | (simp; omega))) | (with_reducible apply setRow_at) | ((with_reducible apply setRow_ne); (first | omega | (dsimp only; omega) | (simp; done) | (simp; omega))))))
  have B_4 : w4.heap[w.heap.size + 1]? = some (.cells #[.int .u64 bn, .int .u64 bd] 24 (0, 0)) := below_at hb4 (by first | omega | (simp; done) | (simp; omega)) (by (repeat (first | (with_reducible assumption) | (with_reducible exact alloc_at _ _) | ((with_reducible apply alloc_at'); (simp; done)) | (with_reducible apply alloc_at_lt) | (with_reducible apply heap_drew_at) | (with_reducible apply heap_drewN_at) | (with_reducible apply heap_setCell_same) | ((with_reducible apply heap_set_ne); (first | omega | (dsimp only; omega) | (simp; done) | (simp; omega))) | (with_reducible apply setRow_at) | ((with_reducible apply setRow_ne); (first | omega | (dsimp only; omega) | (simp; done) | (simp; omega))))))
  have S_4 : w4.heap[w2.heap.size]? = some (.cells #[.int .u64 sn, .int .u64 sd] 24 (0, 0)) := below_at hb4 (by first | omega | (simp; done) | (simp; omega)) (by (repeat (first | (with_reducible assumption) | (with_reducible exact alloc_at _ _) | ((with_reducible apply alloc_at'); (simp; done)) | (with_reducible apply alloc_at_lt) | (with_reducible apply heap_drew_at) | (with_reducible apply heap_drewN_at) | (with_reducible apply heap_setCell_same) | ((with_reducible apply heap_set_ne); (first | omega | (dsimp only; omega) | (simp; done) | (simp; omega))) | (with_reducible apply setRow_at) | ((with_reducible apply setRow_ne); (first | omega | (dsimp only; omega) | (simp; done) | (simp; omega))))))
  have T_4 : w4.heap[w3.heap.size]? = some (.cells #[.int .u64 sn, .int .u64 sd] 24 (0, 0)) := below_at hb4 (by first | omega | (simp; done) | (simp; omega)) (by (repeat (first | (with_reducible assumption) | (with_reducible exact alloc_at _ _) | ((with_reducible apply alloc_at'); (simp; done)) | (with_reducible apply alloc_at_lt) | (with_reducible apply heap_drew_at) | (with_reducible apply heap_drewN_at) | (with_reducible apply heap_setCell_same) | ((with_reducible apply heap_set_ne); (first | omega | (dsimp only; omega) | (simp; done) | (simp; omega))) | (with_reducible apply setRow_at) | ((with_reducible apply setRow_ne); (first | omega | (dsimp only; omega) | (simp; done) | (simp; omega))))))
  have B4 : Below w.heap.size w w4 := Below.trans (by repeat (first | with_reducible assumption | with_reducible exact Below.refl _ _ | with_reducible refine Below.drew ?_ | with_reducible refine below_drewN ?_ _ | with_reducible refine below_alloc ?_ _ | with_reducible refine Below.alloc ?_ (by first | omega | (simp; done) | (simp; omega)) _ | with_reducible refine Below.setCell ?_ (by first | omega | (simp; done) | (simp; omega)) _ | with_reducible refine below_setRow ?_ (by first | omega | (simp; done) | (simp; omega)) _)) (hb4.mono (by first | omega | (simp; done) | (simp; omega)))
  clear hb4 A_3 B_3 S_3
  clear Ac0 Ac1 Acf
  clear Bc0 Bc1 Bcf
  clear Sc0 Sc1 Scf
  have Ac0 : w4.cell? ⟨w.heap.size, 0, none⟩ = some (.int .u64 an) := (blk_cell A_4 0).trans rfl
  have Ac1 : w4.cell? ⟨w.heap.size, 1, none⟩ = some (.int .u64 ad) := (blk_cell A_4 1).trans rfl
  have Acf := blk_free A_4
  have Bc0 : w4.cell? ⟨w.heap.size + 1, 0, none⟩ = some (.int .u64 bn) := (blk_cell B_4 0).trans rfl
  have Bc1 : w4.cell? ⟨w.heap.size + 1, 1, none⟩ = some (.int .u64 bd) := (blk_cell B_4 1).trans rfl
  have Bcf := blk_free B_4
  have Sc0 : w4.cell? ⟨w2.heap.size, 0, none⟩ = some (.int .u64 sn) := (blk_cell S_4 0).trans rfl
  have Sc1 : w4.cell? ⟨w2.heap.size, 1, none⟩ = some (.int .u64 sd) := (blk_cell S_4 1).trans rfl
  have Scf := blk_free S_4
  have Tc0 : w4.cell? ⟨w3.heap.size, 0, none⟩ = some (.int .u64 sn) := (blk_cell T_4 0).trans rfl
  have Tc1 : w4.cell? ⟨w3.heap.size, 1, none⟩ = some (.int .u64 sd) := (blk_cell T_4 1).trans rfl
  have Tcf := blk_free T_4
  have Al4 : w.heap.size < w4.heap.size := by omega
  have Bl4 : w.heap.size + 1 < w4.heap.size := by omega
  have Sl4 : w2.heap.size < w4.heap.size := by omega
  have Tl4 : w3.heap.size < w4.heap.size := by omega
  go_wp2_with fail
  refine (HN.out _).mono ?_
  rintro e w5 ⟨rfl, hb5⟩
  have hs5 := hb5.size
  try simp only [World.size_alloc, World.size_setCell] at hs5
  have A_5 : w5.heap[w.heap.size]? = some (.cells #[.int .u64 an, .int .u64 ad] 24 (0, 0)) := below_at hb5 (by first | omega | (simp; done) | (simp; omega)) (by (repeat (first | (with_reducible assumption) | (with_reducible exact alloc_at _ _) | ((with_reducible apply alloc_at'); (simp; done)) | (with_reducible apply alloc_at_lt) | (with_reducible apply heap_drew_at) | (with_reducible apply heap_drewN_at) | (with_reducible apply heap_setCell_same) | ((with_reducible apply heap_set_ne); (first | omega | (dsimp only; omega) | (simp; done) | (simp; omega))) | (with_reducible apply setRow_at) | ((with_reducible apply setRow_ne); (first | omega | (dsimp only; omega) | (simp; done) | (simp; omega))))))
  have B_5 : w5.heap[w.heap.size + 1]? = some (.cells #[.int .u64 bn, .int .u64 bd] 24 (0, 0)) := below_at hb5 (by first | omega | (simp; done) | (simp; omega)) (by (repeat (first | (with_reducible assumption) | (with_reducible exact alloc_at _ _) | ((with_reducible apply alloc_at'); (simp; done)) | (with_reducible apply alloc_at_lt) | (with_reducible apply heap_drew_at) | (with_reducible apply heap_drewN_at) | (with_reducible apply heap_setCell_same) | ((with_reducible apply heap_set_ne); (first | omega | (dsimp only; omega) | (simp; done) | (simp; omega))) | (with_reducible apply setRow_at) | ((with_reducible apply setRow_ne); (first | omega | (dsimp only; omega) | (simp; done) | (simp; omega))))))
  have S_5 : w5.heap[w2.heap.size]? = some (.cells #[.int .u64 sn, .int .u64 sd] 24 (0, 0)) := below_at hb5 (by first | omega | (simp; done) | (simp; omega)) (by (repeat (first | (with_reducible assumption) | (with_reducible exact alloc_at _ _) | ((with_reducible apply alloc_at'); (simp; done)) | (with_reducible apply alloc_at_lt) | (with_reducible apply heap_drew_at) | (with_reducible apply heap_drewN_at) | (with_reducible apply heap_setCell_same) | ((with_reducible apply heap_set_ne); (first | omega | (dsimp only; omega) | (simp; done) | (simp; omega))) | (with_reducible apply setRow_at) | ((with_reducible apply setRow_ne); (first | omega | (dsimp only; omega) | (simp; done) | (simp; omega))))))
  have T_5 : w5.heap[w3.heap.size]? = some (.cells #[.int .u64 sn, .int .u64 sd] 24 (0, 0)) := below_at hb5 (by first | omega | (simp; done) | (simp; omega)) (by (repeat (first | (with_reducible assumption) | (with_reducible exact alloc_at _ _) | ((with_reducible apply alloc_at'); (simp; done)) | (with_reducible apply alloc_at_lt) | (with_reducible apply heap_drew_at) | (with_reducible apply heap_drewN_at) | (with_reducible apply heap_setCell_same) | ((with_reducible apply heap_set_ne); (first | omega | (dsimp only; omega) | (simp; done) | (simp; omega))) | (with_reducible apply setRow_at) | ((with_reducible apply setRow_ne); (first | omega | (dsimp only; omega) | (simp; done) | (simp; omega))))))
  have P_5 : w5.heap[w4.heap.size]? = some (.cells #[.int .u64 pn, .int .u64 pd] 24 (0, 0)) := below_at hb5 (by first | omega | (simp; done) | (simp; omega)) (by (repeat (first | (with_reducible assumption) | (with_reducible exact alloc_at _ _) | ((with_reducible apply alloc_at'); (simp; done)) | (with_reducible apply alloc_at_lt) | (with_reducible apply heap_drew_at) | (with_reducible apply heap_drewN_at) | (with_reducible apply heap_setCell_same) | ((with_reducible apply heap_set_ne); (first | omega | (dsimp only; omega) | (simp; done) | (simp; omega))) | (with_reducible apply setRow_at) | ((with_reducible apply setRow_ne); (first | omega | (dsimp only; omega) | (simp; done) | (simp; omega))))))
  have B5 : Below w.heap.size w w5 := Below.trans (by repeat (first | with_reducible assumption | with_reducible exact Below.refl _ _ | with_reducible refine Below.drew ?_ | with_reducible refine below_drewN ?_ _ | with_reducible refine below_alloc ?_ _ | with_reducible refine Below.alloc ?_ (by first | omega | (simp; done) | (simp; omega)) _ | with_reducible refine Below.setCell ?_ (by first | omega | (simp; done) | (simp; omega)) _ | with_reducible refine below_setRow ?_ (by first | omega | (simp; done) | (simp; omega)) _)) (hb5.mono (by first | omega | (simp; done) | (simp; omega)))
  clear hb5 A_4 B_4 S_4 T_4
  clear Ac0 Ac1 Acf
  clear Bc0 Bc1 Bcf
  clear Sc0 Sc1 Scf
  clear Tc0 Tc1 Tcf
  have Ac0 : w5.cell? ⟨w.heap.size, 0, none⟩ = some (.int .u64 an) := (blk_cell A_5 0).trans rfl
  have Ac1 : w5.cell? ⟨w.heap.size, 1, none⟩ = some (.int .u64 ad) := (blk_cell A_5 1).trans rfl
  have Acf := blk_free A_5
  have Bc0 : w5.cell? ⟨w.heap.size + 1, 0, none⟩ = some (.int .u64 bn) := (blk_cell B_5 0).trans rfl
  have Bc1 : w5.cell? ⟨w.heap.size + 1, 1, none⟩ = some (.int .u64 bd) := (blk_cell B_5 1).trans rfl
  have Bcf := blk_free B_5
  have Sc0 : w5.cell? ⟨w2.heap.size, 0, none⟩ = some (.int .u64 sn) := (blk_cell S_5 0).trans rfl
  have Sc1 : w5.cell? ⟨w2.heap.size, 1, none⟩ = some (.int .u64 sd) := (blk_cell S_5 1).trans rfl
  have Scf := blk_free S_5
  have Tc0 : w5.cell? ⟨w3.heap.size, 0, none⟩ = some (.int .u64 sn) := (blk_cell T_5 0).trans rfl
  have Tc1 : w5.cell? ⟨w3.heap.size, 1, none⟩ = some (.int .u64 sd) := (blk_cell T_5 1).trans rfl
  have Tcf := blk_free T_5
  have Pc0 : w5.cell? ⟨w4.heap.size, 0, none⟩ = some (.int .u64 pn) := (blk_cell P_5 0).trans rfl
  have Pc1 : w5.cell? ⟨w4.heap.size, 1, none⟩ = some (.int .u64 pd) := (blk_cell P_5 1).trans rfl
  have Pcf := blk_free P_5
  have Al5 : w.heap.size < w5.heap.size := by omega
  have Bl5 : w.heap.size + 1 < w5.heap.size := by omega
  have Sl5 : w2.heap.size < w5.heap.size := by omega
  have Tl5 : w3.heap.size < w5.heap.size := by omega
  have Pl5 : w4.heap.size < w5.heap.size := by omega
  go_wp2
  go_ret
  exact ⟨by first | rfl | simp, (by repeat (first | with_reducible assumption | with_reducible exact Below.refl _ _ | with_reducible refine Below.drew ?_ | with_reducible refine below_drewN ?_ _ | with_reducible refine below_alloc ?_ _ | with_reducible refine Below.alloc ?_ (by first | omega | (simp; done) | (simp; omega)) _ | with_reducible refine Below.setCell ?_ (by first | omega | (simp; done) | (simp; omega)) _ | with_reducible refine below_setRow ?_ (by first | omega | (simp; done) | (simp; omega)) _))⟩
set_option maxRecDepth 100000 in
set_option maxHeartbeats 4000000 in
theorem back_7 (an ad bn bd sn sd pn pd pe  : Int) (w : World) 
    (HA : Hid (∀ W, Calls Try.prog 15 #[.agg #[.int .u64 an, .int .u64 ad], .agg #[.int .u64 bn, .int .u64 bd]] W fun e w' => e = .returned (.tuple #[.agg #[.int .u64 sn, .int .u64 sd], .int .i64 7]) ∧ Below W.heap.size W w')) (HB : Hid (∀ W, Calls Try.prog 15 #[.agg #[.int .u64 bn, .int .u64 bd], .agg #[.int .u64 an, .int .u64 ad]] W fun e w' => e = .returned (.tuple #[.agg #[.int .u64 sn, .int .u64 sd], .int .i64 7]) ∧ Below W.heap.size W w')) (HM : Hid (∀ W, Calls Try.prog 16 #[.agg #[.int .u64 an, .int .u64 ad], .agg #[.int .u64 bn, .int .u64 bd]] W fun e w' => e = .returned (.tuple #[.agg #[.int .u64 pn, .int .u64 pd], .int .i64 pe]) ∧ Below W.heap.size W w')) (HN : Hid (∀ W, Calls Try.prog 16 #[.agg #[.int .u64 bn, .int .u64 bd], .agg #[.int .u64 an, .int .u64 ad]] W fun e w' => e = .returned (.tuple #[.agg #[.int .u64 pn, .int .u64 pd], .int .i64 pe]) ∧ Below W.heap.size W w')) :
    Calls Try.prog 7 #[.agg #[.int .u64 an, .int .u64 ad], .agg #[.int .u64 bn, .int .u64 bd]] w fun e w' => e = .returned (.bool true) ∧ Below w.heap.size w w' := by
  go_enter Try.func7, Try.ntmps7
  go_wp2_with fail
  refine (awake2_any _).mono ?_
  rintro e w1 ⟨rfl, hb1⟩
  have hs1 := hb1.size
  try simp only [World.size_alloc, World.size_setCell] at hs1
  have A_1 : w1.heap[w.heap.size]? = some (.cells #[.int .u64 an, .int .u64 ad] 24 (0, 0)) := below_at hb1 (by first | omega | (simp; done) | (simp; omega)) (by (repeat (first | (with_reducible assumption) | (with_reducible exact alloc_at _ _) | ((with_reducible apply alloc_at'); (simp; done)) | (with_reducible apply alloc_at_lt) | (with_reducible apply heap_drew_at) | (with_reducible apply heap_drewN_at) | (with_reducible apply heap_setCell_same) | ((with_reducible apply heap_set_ne); (first | omega | (dsimp only; omega) | (simp; done) | (simp; omega))) | (with_reducible apply setRow_at) | ((with_reducible apply setRow_ne); (first | omega | (dsimp only; omega) | (simp; done) | (simp; omega))))))
  have B_1 : w1.heap[w.heap.size + 1]? = some (.cells #[.int .u64 bn, .int .u64 bd] 24 (0, 0)) := below_at hb1 (by first | omega | (simp; done) | (simp; omega)) (by (repeat (first | (with_reducible assumption) | (with_reducible exact alloc_at _ _) | ((with_reducible apply alloc_at'); (simp; done)) | (with_reducible apply alloc_at_lt) | (with_reducible apply heap_drew_at) | (with_reducible apply heap_drewN_at) | (with_reducible apply heap_setCell_same) | ((with_reducible apply heap_set_ne); (first | omega | (dsimp only; omega) | (simp; done) | (simp; omega))) | (with_reducible apply setRow_at) | ((with_reducible apply setRow_ne); (first | omega | (dsimp only; omega) | (simp; done) | (simp; omega))))))
  have B1 : Below w.heap.size w w1 := Below.trans (by repeat (first | with_reducible assumption | with_reducible exact Below.refl _ _ | with_reducible refine Below.drew ?_ | with_reducible refine below_drewN ?_ _ | with_reducible refine below_alloc ?_ _ | with_reducible refine Below.alloc ?_ (by first | omega | (simp; done) | (simp; omega)) _ | with_reducible refine Below.setCell ?_ (by first | omega | (simp; done) | (simp; omega)) _ | with_reducible refine below_setRow ?_ (by first | omega | (simp; done) | (simp; omega)) _)) (hb1.mono (by first | omega | (simp; done) | (simp; omega)))
  clear hb1
  have Ac0 : w1.cell? ⟨w.heap.size, 0, none⟩ = some (.int .u64 an) := (blk_cell A_1 0).trans rfl
  have Ac1 : w1.cell? ⟨w.heap.size, 1, none⟩ = some (.int .u64 ad) := (blk_cell A_1 1).trans rfl
  have Acf := blk_free A_1
  have Bc0 : w1.cell? ⟨w.heap.size + 1, 0, none⟩ = some (.int .u64 bn) := (blk_cell B_1 0).trans rfl
  have Bc1 : w1.cell? ⟨w.heap.size + 1, 1, none⟩ = some (.int .u64 bd) := (blk_cell B_1 1).trans rfl
  have Bcf := blk_free B_1
  have Al1 : w.heap.size < w1.heap.size := by omega
  have Bl1 : w.heap.size + 1 < w1.heap.size := by omega
  go_wp2_with fail
  refine (HA.out _).mono ?_
  rintro e w2 ⟨rfl, hb2⟩
  have hs2 := hb2.size
  try simp only [World.size_alloc, World.size_setCell] at hs2
  have A_2 : w2.heap[w.heap.size]? = some (.cells #[.int .u64 an, .int .u64 ad] 24 (0, 0)) := below_at hb2 (by first | omega | (simp; done) | (simp; omega)) (by (repeat (first | (with_reducible assumption) | (with_reducible exact alloc_at _ _) | ((with_reducible apply alloc_at'); (simp; done)) | (with_reducible apply alloc_at_lt) | (with_reducible apply heap_drew_at) | (with_reducible apply heap_drewN_at) | (with_reducible apply heap_setCell_same) | ((with_reducible apply heap_set_ne); (first | omega | (dsimp only; omega) | (simp; done) | (simp; omega))) | (with_reducible apply setRow_at) | ((with_reducible apply setRow_ne); (first | omega | (dsimp only; omega) | (simp; done) | (simp; omega))))))
  have B_2 : w2.heap[w.heap.size + 1]? = some (.cells #[.int .u64 bn, .int .u64 bd] 24 (0, 0)) := below_at hb2 (by first | omega | (simp; done) | (simp; omega)) (by (repeat (first | (with_reducible assumption) | (with_reducible exact alloc_at _ _) | ((with_reducible apply alloc_at'); (simp; done)) | (with_reducible apply alloc_at_lt) | (with_reducible apply heap_drew_at) | (with_reducible apply heap_drewN_at) | (with_reducible apply heap_setCell_same) | ((with_reducible apply heap_set_ne); (first | omega | (dsimp only; omega) | (simp; done) | (simp; omega))) | (with_reducible apply setRow_at) | ((with_reducible apply setRow_ne); (first | omega | (dsimp only; omega) | (simp; done) | (simp; omega))))))
  have B2 : Below w.heap.size w w2 := Below.trans (by repeat (first | with_reducible assumption | with_reducible exact Below.refl _ _ | with_reducible refine Below.drew ?_ | with_reducible refine below_drewN ?_ _ | with_reducible refine below_alloc ?_ _ | with_reducible refine Below.alloc ?_ (by first | omega | (simp; done) | (simp; omega)) _ | with_reducible refine Below.setCell ?_ (by first | omega | (simp; done) | (simp; omega)) _ | with_reducible refine below_setRow ?_ (by first | omega | (simp; done) | (simp; omega)) _)) (hb2.mono (by first | omega | (simp; done) | (simp; omega)))
  clear hb2 A_1 B_1
  clear Ac0 Ac1 Acf
  clear Bc0 Bc1 Bcf
  have Ac0 : w2.cell? ⟨w.heap.size, 0, none⟩ = some (.int .u64 an) := (blk_cell A_2 0).trans rfl
  have Ac1 : w2.cell? ⟨w.heap.size, 1, none⟩ = some (.int .u64 ad) := (blk_cell A_2 1).trans rfl
  have Acf := blk_free A_2
  have Bc0 : w2.cell? ⟨w.heap.size + 1, 0, none⟩ = some (.int .u64 bn) := (blk_cell B_2 0).trans rfl
  have Bc1 : w2.cell? ⟨w.heap.size + 1, 1, none⟩ = some (.int .u64 bd) := (blk_cell B_2 1).trans rfl
  have Bcf := blk_free B_2
  have Al2 : w.heap.size < w2.heap.size := by omega
  have Bl2 : w.heap.size + 1 < w2.heap.size := by omega
  go_wp2_with fail
  refine (HB.out _).mono ?_
  rintro e w3 ⟨rfl, hb3⟩
  have hs3 := hb3.size
  try simp only [World.size_alloc, World.size_setCell] at hs3
  have A_3 : w3.heap[w.heap.size]? = some (.cells #[.int .u64 an, .int .u64 ad] 24 (0, 0)) := below_at hb3 (by first | omega | (simp; done) | (simp; omega)) (by (repeat (first | (with_reducible assumption) | (with_reducible exact alloc_at _ _) | ((with_reducible apply alloc_at'); (simp; done)) | (with_reducible apply alloc_at_lt) | (with_reducible apply heap_drew_at) | (with_reducible apply heap_drewN_at) | (with_reducible apply heap_setCell_same) | ((with_reducible apply heap_set_ne); (first | omega | (dsimp only; omega) | (simp; done) | (simp; omega))) | (with_reducible apply setRow_at) | ((with_reducible apply setRow_ne); (first | omega | (dsimp only; omega) | (simp; done) | (simp; omega))))))
  have B_3 : w3.heap[w.heap.size + 1]? = some (.cells #[.int .u64 bn, .int .u64 bd] 24 (0, 0)) := below_at hb3 (by first | omega | (simp; done) | (simp; omega)) (by (repeat (first | (with_reducible assumption) | (with_reducible exact alloc_at _ _) | ((with_reducible apply alloc_at'); (simp; done)) | (with_reducible apply alloc_at_lt) | (with_reducible apply heap_drew_at) | (with_reducible apply heap_drewN_at) | (with_reducible apply heap_setCell_same) | ((with_reducible apply heap_set_ne); (first | omega | (dsimp only; omega) | (simp; done) | (simp; omega))) | (with_reducible apply setRow_at) | ((with_reducible apply setRow_ne); (first | omega | (dsimp only; omega) | (simp; done) | (simp; omega))))))
  have S_3 : w3.heap[w2.heap.size]? = some (.cells #[.int .u64 sn, .int .u64 sd] 24 (0, 0)) := below_at hb3 (by first | omega | (simp; done) | (simp; omega)) (by (repeat (first | (with_reducible assumption) | (with_reducible exact alloc_at _ _) | ((with_reducible apply alloc_at'); (simp; done)) | (with_reducible apply alloc_at_lt) | (with_reducible apply heap_drew_at) | (with_reducible apply heap_drewN_at) | (with_reducible apply heap_setCell_same) | ((with_reducible apply heap_set_ne); (first | omega | (dsimp only; omega) | (simp; done) | (simp; omega))) | (with_reducible apply setRow_at) | ((with_reducible apply setRow_ne); (first | omega | (dsimp only; omega) | (simp; done) | (simp; omega))))))
  have B3 : Below w.heap.size w w3 := Below.trans (by repeat (first | with_reducible assumption | with_reducible exact Below.refl _ _ | with_reducible refine Below.drew ?_ | with_reducible refine below_drewN ?_ _ | with_reducible refine below_alloc ?_ _ | with_reducible refine Below.alloc ?_ (by first | omega | (simp; done) | (simp; omega)) _ | with_reducible refine Below.setCell ?_ (by first | omega | (simp; done) | (simp; omega)) _ | with_reducible refine below_setRow ?_ (by first | omega | (simp; done) | (simp; omega)) _)) (hb3.mono (by first | omega | (simp; done) | (simp; omega)))
  clear hb3 A_2 B_2
  clear Ac0 Ac1 Acf
  clear Bc0 Bc1 Bcf
  have Ac0 : w3.cell? ⟨w.heap.size, 0, none⟩ = some (.int .u64 an) := (blk_cell A_3 0).trans rfl
  have Ac1 : w3.cell? ⟨w.heap.size, 1, none⟩ = some (.int .u64 ad) := (blk_cell A_3 1).trans rfl
  have Acf := blk_free A_3
  have Bc0 : w3.cell? ⟨w.heap.size + 1, 0, none⟩ = some (.int .u64 bn) := (blk_cell B_3 0).trans rfl
  have Bc1 : w3.cell? ⟨w.heap.size + 1, 1, none⟩ = some (.int .u64 bd) := (blk_cell B_3 1).trans rfl
  have Bcf := blk_free B_3
  have Sc0 : w3.cell? ⟨w2.heap.size, 0, none⟩ = some (.int .u64 sn) := (blk_cell S_3 0).trans rfl
  have Sc1 : w3.cell? ⟨w2.heap.size, 1, none⟩ = some (.int .u64 sd) := (blk_cell S_3 1).trans rfl
  have Scf := blk_free S_3
  have Al3 : w.heap.size < w3.heap.size := by omega
  have Bl3 : w.heap.size + 1 < w3.heap.size := by omega
  have Sl3 : w2.heap.size < w3.heap.size := by omega
  go_wp2_with fail
  refine (HM.out _).mono ?_
  rintro e w4 ⟨rfl, hb4⟩
  have hs4 := hb4.size
  try simp only [World.size_alloc, World.size_setCell] at hs4
  have A_4 : w4.heap[w.heap.size]? = some (.cells #[.int .u64 an, .int .u64 ad] 24 (0, 0)) := below_at hb4 (by first | omega | (simp; done) | (simp; omega)) (by (repeat (first | (with_reducible assumption) | (with_reducible exact alloc_at _ _) | ((with_reducible apply alloc_at'); (simp; done)) | (with_reducible apply alloc_at_lt) | (with_reducible apply heap_drew_at) | (with_reducible apply heap_drewN_at) | (with_reducible apply heap_setCell_same) | ((with_reducible apply heap_set_ne); (first | omega | (dsimp only; omega) | (simp; done) | (simp; omega))) | (with_reducible apply setRow_at) | ((with_reducible apply setRow_ne); (first | omega | (dsimp only; omega) | (simp; done) | (simp; omega))))))
  have B_4 : w4.heap[w.heap.size + 1]? = some (.cells #[.int .u64 bn, .int .u64 bd] 24 (0, 0)) := below_at hb4 (by first | omega | (simp; done) | (simp; omega)) (by (repeat (first | (with_reducible assumption) | (with_reducible exact alloc_at _ _) | ((with_reducible apply alloc_at'); (simp; done)) | (with_reducible apply alloc_at_lt) | (with_reducible apply heap_drew_at) | (with_reducible apply heap_drewN_at) | (with_reducible apply heap_setCell_same) | ((with_reducible apply heap_set_ne); (first | omega | (dsimp only; omega) | (simp; done) | (simp; omega))) | (with_reducible apply setRow_at) | ((with_reducible apply setRow_ne); (first | omega | (dsimp only; omega) | (simp; done) | (simp; omega))))))
  have S_4 : w4.heap[w2.heap.size]? = some (.cells #[.int .u64 sn, .int .u64 sd] 24 (0, 0)) := below_at hb4 (by first | omega | (simp; done) | (simp; omega)) (by (repeat (first | (with_reducible assumption) | (with_reducible exact alloc_at _ _) | ((with_reducible apply alloc_at'); (simp; done)) | (with_reducible apply alloc_at_lt) | (with_reducible apply heap_drew_at) | (with_reducible apply heap_drewN_at) | (with_reducible apply heap_setCell_same) | ((with_reducible apply heap_set_ne); (first | omega | (dsimp only; omega) | (simp; done) | (simp; omega))) | (with_reducible apply setRow_at) | ((with_reducible apply setRow_ne); (first | omega | (dsimp only; omega) | (simp; done) | (simp; omega))))))
  have T_4 : w4.heap[w3.heap.size]? = some (.cells #[.int .u64 sn, .int .u64 sd] 24 (0, 0)) := below_at hb4 (by first | omega | (simp; done) | (simp; omega)) (by (repeat (first | (with_reducible assumption) | (with_reducible exact alloc_at _ _) | ((with_reducible apply alloc_at'); (simp; done)) | (with_reducible apply alloc_at_lt) | (with_reducible apply heap_drew_at) | (with_reducible apply heap_drewN_at) | (with_reducible apply heap_setCell_same) | ((with_reducible apply heap_set_ne); (first | omega | (dsimp only; omega) | (simp; done) | (simp; omega))) | (with_reducible apply setRow_at) | ((with_reducible apply setRow_ne); (first | omega | (dsimp only; omega) | (simp; done) | (simp; omega))))))
  have B4 : Below w.heap.size w w4 := Below.trans (by repeat (first | with_reducible assumption | with_reducible exact Below.refl _ _ | with_reducible refine Below.drew ?_ | with_reducible refine below_drewN ?_ _ | with_reducible refine below_alloc ?_ _ | with_reducible refine Below.alloc ?_ (by first | omega | (simp; done) | (simp; omega)) _ | with_reducible refine Below.setCell ?_ (by first | omega | (simp; done) | (simp; omega)) _ | with_reducible refine below_setRow ?_ (by first | omega | (simp; done) | (simp; omega)) _)) (hb4.mono (by first | omega | (simp; done) | (simp; omega)))
  clear hb4 A_3 B_3 S_3
  clear Ac0 Ac1 Acf
  clear Bc0 Bc1 Bcf
  clear Sc0 Sc1 Scf
  have Ac0 : w4.cell? ⟨w.heap.size, 0, none⟩ = some (.int .u64 an) := (blk_cell A_4 0).trans rfl
  have Ac1 : w4.cell? ⟨w.heap.size, 1, none⟩ = some (.int .u64 ad) := (blk_cell A_4 1).trans rfl
  have Acf := blk_free A_4
  have Bc0 : w4.cell? ⟨w.heap.size + 1, 0, none⟩ = some (.int .u64 bn) := (blk_cell B_4 0).trans rfl
  have Bc1 : w4.cell? ⟨w.heap.size + 1, 1, none⟩ = some (.int .u64 bd) := (blk_cell B_4 1).trans rfl
  have Bcf := blk_free B_4
  have Sc0 : w4.cell? ⟨w2.heap.size, 0, none⟩ = some (.int .u64 sn) := (blk_cell S_4 0).trans rfl
  have Sc1 : w4.cell? ⟨w2.heap.size, 1, none⟩ = some (.int .u64 sd) := (blk_cell S_4 1).trans rfl
  have Scf := blk_free S_4
  have Tc0 : w4.cell? ⟨w3.heap.size, 0, none⟩ = some (.int .u64 sn) := (blk_cell T_4 0).trans rfl
  have Tc1 : w4.cell? ⟨w3.heap.size, 1, none⟩ = some (.int .u64 sd) := (blk_cell T_4 1).trans rfl
  have Tcf := blk_free T_4
  have Al4 : w.heap.size < w4.heap.size := by omega
  have Bl4 : w.heap.size + 1 < w4.heap.size := by omega
  have Sl4 : w2.heap.size < w4.heap.size := by omega
  have Tl4 : w3.heap.size < w4.heap.size := by omega
  go_wp2_with fail
  refine (HN.out _).mono ?_
  rintro e w5 ⟨rfl, hb5⟩
  have hs5 := hb5.size
  try simp only [World.size_alloc, World.size_setCell] at hs5
  have A_5 : w5.heap[w.heap.size]? = some (.cells #[.int .u64 an, .int .u64 ad] 24 (0, 0)) := below_at hb5 (by first | omega | (simp; done) | (simp; omega)) (by (repeat (first | (with_reducible assumption) | (with_reducible exact alloc_at _ _) | ((with_reducible apply alloc_at'); (simp; done)) | (with_reducible apply alloc_at_lt) | (with_reducible apply heap_drew_at) | (with_reducible apply heap_drewN_at) | (with_reducible apply heap_setCell_same) | ((with_reducible apply heap_set_ne); (first | omega | (dsimp only; omega) | (simp; done) | (simp; omega))) | (with_reducible apply setRow_at) | ((with_reducible apply setRow_ne); (first | omega | (dsimp only; omega) | (simp; done) | (simp; omega))))))
  have B_5 : w5.heap[w.heap.size + 1]? = some (.cells #[.int .u64 bn, .int .u64 bd] 24 (0, 0)) := below_at hb5 (by first | omega | (simp; done) | (simp; omega)) (by (repeat (first | (with_reducible assumption) | (with_reducible exact alloc_at _ _) | ((with_reducible apply alloc_at'); (simp; done)) | (with_reducible apply alloc_at_lt) | (with_reducible apply heap_drew_at) | (with_reducible apply heap_drewN_at) | (with_reducible apply heap_setCell_same) | ((with_reducible apply heap_set_ne); (first | omega | (dsimp only; omega) | (simp; done) | (simp; omega))) | (with_reducible apply setRow_at) | ((with_reducible apply setRow_ne); (first | omega | (dsimp only; omega) | (simp; done) | (simp; omega))))))
  have S_5 : w5.heap[w2.heap.size]? = some (.cells #[.int .u64 sn, .int .u64 sd] 24 (0, 0)) := below_at hb5 (by first | omega | (simp; done) | (simp; omega)) (by (repeat (first | (with_reducible assumption) | (with_reducible exact alloc_at _ _) | ((with_reducible apply alloc_at'); (simp; done)) | (with_reducible apply alloc_at_lt) | (with_reducible apply heap_drew_at) | (with_reducible apply heap_drewN_at) | (with_reducible apply heap_setCell_same) | ((with_reducible apply heap_set_ne); (first | omega | (dsimp only; omega) | (simp; done) | (simp; omega))) | (with_reducible apply setRow_at) | ((with_reducible apply setRow_ne); (first | omega | (dsimp only; omega) | (simp; done) | (simp; omega))))))
  have T_5 : w5.heap[w3.heap.size]? = some (.cells #[.int .u64 sn, .int .u64 sd] 24 (0, 0)) := below_at hb5 (by first | omega | (simp; done) | (simp; omega)) (by (repeat (first | (with_reducible assumption) | (with_reducible exact alloc_at _ _) | ((with_reducible apply alloc_at'); (simp; done)) | (with_reducible apply alloc_at_lt) | (with_reducible apply heap_drew_at) | (with_reducible apply heap_drewN_at) | (with_reducible apply heap_setCell_same) | ((with_reducible apply heap_set_ne); (first | omega | (dsimp only; omega) | (simp; done) | (simp; omega))) | (with_reducible apply setRow_at) | ((with_reducible apply setRow_ne); (first | omega | (dsimp only; omega) | (simp; done) | (simp; omega))))))
  have P_5 : w5.heap[w4.heap.size]? = some (.cells #[.int .u64 pn, .int .u64 pd] 24 (0, 0)) := below_at hb5 (by first | omega | (simp; done) | (simp; omega)) (by (repeat (first | (with_reducible assumption) | (with_reducible exact alloc_at _ _) | ((with_reducible apply alloc_at'); (simp; done)) | (with_reducible apply alloc_at_lt) | (with_reducible apply heap_drew_at) | (with_reducible apply heap_drewN_at) | (with_reducible apply heap_setCell_same) | ((with_reducible apply heap_set_ne); (first | omega | (dsimp only; omega) | (simp; done) | (simp; omega))) | (with_reducible apply setRow_at) | ((with_reducible apply setRow_ne); (first | omega | (dsimp only; omega) | (simp; done) | (simp; omega))))))
  have B5 : Below w.heap.size w w5 := Below.trans (by repeat (first | with_reducible assumption | with_reducible exact Below.refl _ _ | with_reducible refine Below.drew ?_ | with_reducible refine below_drewN ?_ _ | with_reducible refine below_alloc ?_ _ | with_reducible refine Below.alloc ?_ (by first | omega | (simp; done) | (simp; omega)) _ | with_reducible refine Below.setCell ?_ (by first | omega | (simp; done) | (simp; omega)) _ | with_reducible refine below_setRow ?_ (by first | omega | (simp; done) | (simp; omega)) _)) (hb5.mono (by first | omega | (simp; done) | (simp; omega)))
  clear hb5 A_4 B_4 S_4 T_4
  clear Ac0 Ac1 Acf
  clear Bc0 Bc1 Bcf
  clear Sc0 Sc1 Scf
  clear Tc0 Tc1 Tcf
  have Ac0 : w5.cell? ⟨w.heap.size, 0, none⟩ = some (.int .u64 an) := (blk_cell A_5 0).trans rfl
  have Ac1 : w5.cell? ⟨w.heap.size, 1, none⟩ = some (.int .u64 ad) := (blk_cell A_5 1).trans rfl
  have Acf := blk_free A_5
  have Bc0 : w5.cell? ⟨w.heap.size + 1, 0, none⟩ = some (.int .u64 bn) := (blk_cell B_5 0).trans rfl
  have Bc1 : w5.cell? ⟨w.heap.size + 1, 1, none⟩ = some (.int .u64 bd) := (blk_cell B_5 1).trans rfl
  have Bcf := blk_free B_5
  have Sc0 : w5.cell? ⟨w2.heap.size, 0, none⟩ = some (.int .u64 sn) := (blk_cell S_5 0).trans rfl
  have Sc1 : w5.cell? ⟨w2.heap.size, 1, none⟩ = some (.int .u64 sd) := (blk_cell S_5 1).trans rfl
  have Scf := blk_free S_5
  have Tc0 : w5.cell? ⟨w3.heap.size, 0, none⟩ = some (.int .u64 sn) := (blk_cell T_5 0).trans rfl
  have Tc1 : w5.cell? ⟨w3.heap.size, 1, none⟩ = some (.int .u64 sd) := (blk_cell T_5 1).trans rfl
  have Tcf := blk_free T_5
  have Pc0 : w5.cell? ⟨w4.heap.size, 0, none⟩ = some (.int .u64 pn) := (blk_cell P_5 0).trans rfl
  have Pc1 : w5.cell? ⟨w4.heap.size, 1, none⟩ = some (.int .u64 pd) := (blk_cell P_5 1).trans rfl
  have Pcf := blk_free P_5
  have Al5 : w.heap.size < w5.heap.size := by omega
  have Bl5 : w.heap.size + 1 < w5.heap.size := by omega
  have Sl5 : w2.heap.size < w5.heap.size := by omega
  have Tl5 : w3.heap.size < w5.heap.size := by omega
  have Pl5 : w4.heap.size < w5.heap.size := by omega
  go_wp2
  go_ret
  exact ⟨by first | rfl | simp, (by repeat (first | with_reducible assumption | with_reducible exact Below.refl _ _ | with_reducible refine Below.drew ?_ | with_reducible refine below_drewN ?_ _ | with_reducible refine below_alloc ?_ _ | with_reducible refine Below.alloc ?_ (by first | omega | (simp; done) | (simp; omega)) _ | with_reducible refine Below.setCell ?_ (by first | omega | (simp; done) | (simp; omega)) _ | with_reducible refine below_setRow ?_ (by first | omega | (simp; done) | (simp; omega)) _))⟩
set_option maxRecDepth 100000 in
set_option maxHeartbeats 4000000 in
theorem back_o (an ad bn bd sn sd pn pd pe r t c j : Int) (w : World) (HS : Hid (∀ W, Calls Try.prog 18 #[.agg #[.int .u64 sn, .int .u64 sd], .agg #[.int .u64 bn, .int .u64 bd]] W fun e w' => e = .returned (.tuple #[.agg #[.int .u64 r, .int .u64 t], .int .i64 7]) ∧ Below W.heap.size W w')) (HC : Hid (∀ W, Calls Try.prog 11 #[.agg #[.int .u64 r, .int .u64 t], .agg #[.int .u64 an, .int .u64 ad]] W fun e w' => e = .returned (.tuple #[.int .i64 c, .int .i64 j]) ∧ Below W.heap.size W w'))
    (HA : Hid (∀ W, Calls Try.prog 15 #[.agg #[.int .u64 an, .int .u64 ad], .agg #[.int .u64 bn, .int .u64 bd]] W fun e w' => e = .returned (.tuple #[.agg #[.int .u64 sn, .int .u64 sd], .int .i64 0]) ∧ Below W.heap.size W w')) (HB : Hid (∀ W, Calls Try.prog 15 #[.agg #[.int .u64 bn, .int .u64 bd], .agg #[.int .u64 an, .int .u64 ad]] W fun e w' => e = .returned (.tuple #[.agg #[.int .u64 sn, .int .u64 sd], .int .i64 0]) ∧ Below W.heap.size W w')) (HM : Hid (∀ W, Calls Try.prog 16 #[.agg #[.int .u64 an, .int .u64 ad], .agg #[.int .u64 bn, .int .u64 bd]] W fun e w' => e = .returned (.tuple #[.agg #[.int .u64 pn, .int .u64 pd], .int .i64 pe]) ∧ Below W.heap.size W w')) (HN : Hid (∀ W, Calls Try.prog 16 #[.agg #[.int .u64 bn, .int .u64 bd], .agg #[.int .u64 an, .int .u64 ad]] W fun e w' => e = .returned (.tuple #[.agg #[.int .u64 pn, .int .u64 pd], .int .i64 pe]) ∧ Below W.heap.size W w')) :
    Calls Try.prog 7 #[.agg #[.int .u64 an, .int .u64 ad], .agg #[.int .u64 bn, .int .u64 bd]] w fun e w' => e = .returned (.bool true) ∧ Below w.heap.size w w' := by
  go_enter Try.func7, Try.ntmps7
  go_wp2_with fail
  refine (awake2_any _).mono ?_
  rintro e w1 ⟨rfl, hb1⟩
  have hs1 := hb1.size
  try simp only [World.size_alloc, World.size_setCell] at hs1
  have A_1 : w1.heap[w.heap.size]? = some (.cells #[.int .u64 an, .int .u64 ad] 24 (0, 0)) := below_at hb1 (by first | omega | (simp; done) | (simp; omega)) (by (repeat (first | (with_reducible assumption) | (with_reducible exact alloc_at _ _) | ((with_reducible apply alloc_at'); (simp; done)) | (with_reducible apply alloc_at_lt) | (with_reducible apply heap_drew_at) | (with_reducible apply heap_drewN_at) | (with_reducible apply heap_setCell_same) | ((with_reducible apply heap_set_ne); (first | omega | (dsimp only; omega) | (simp; done) | (simp; omega))) | (with_reducible apply setRow_at) | ((with_reducible apply setRow_ne); (first | omega | (dsimp only; omega) | (simp; done) | (simp; omega))))))
  have B_1 : w1.heap[w.heap.size + 1]? = some (.cells #[.int .u64 bn, .int .u64 bd] 24 (0, 0)) := below_at hb1 (by first | omega | (simp; done) | (simp; omega)) (by (repeat (first | (with_reducible assumption) | (with_reducible exact alloc_at _ _) | ((with_reducible apply alloc_at'); (simp; done)) | (with_reducible apply alloc_at_lt) | (with_reducible apply heap_drew_at) | (with_reducible apply heap_drewN_at) | (with_reducible apply heap_setCell_same) | ((with_reducible apply heap_set_ne); (first | omega | (dsimp only; omega) | (simp; done) | (simp; omega))) | (with_reducible apply setRow_at) | ((with_reducible apply setRow_ne); (first | omega | (dsimp only; omega) | (simp; done) | (simp; omega))))))
  have B1 : Below w.heap.size w w1 := Below.trans (by repeat (first | with_reducible assumption | with_reducible exact Below.refl _ _ | with_reducible refine Below.drew ?_ | with_reducible refine below_drewN ?_ _ | with_reducible refine below_alloc ?_ _ | with_reducible refine Below.alloc ?_ (by first | omega | (simp; done) | (simp; omega)) _ | with_reducible refine Below.setCell ?_ (by first | omega | (simp; done) | (simp; omega)) _ | with_reducible refine below_setRow ?_ (by first | omega | (simp; done) | (simp; omega)) _)) (hb1.mono (by first | omega | (simp; done) | (simp; omega)))
  clear hb1
  have Ac0 : w1.cell? ⟨w.heap.size, 0, none⟩ = some (.int .u64 an) := (blk_cell A_1 0).trans rfl
  have Ac1 : w1.cell? ⟨w.heap.size, 1, none⟩ = some (.int .u64 ad) := (blk_cell A_1 1).trans rfl
  have Acf := blk_free A_1
  have Bc0 : w1.cell? ⟨w.heap.size + 1, 0, none⟩ = some (.int .u64 bn) := (blk_cell B_1 0).trans rfl
  have Bc1 : w1.cell? ⟨w.heap.size + 1, 1, none⟩ = some (.int .u64 bd) := (blk_cell B_1 1).trans rfl
  have Bcf := blk_free B_1
  have Al1 : w.heap.size < w1.heap.size := by omega
  have Bl1 : w.heap.size + 1 < w1.heap.size := by omega
  go_wp2_with fail
  refine (HA.out _).mono ?_
  rintro e w2 ⟨rfl, hb2⟩
  have hs2 := hb2.size
  try simp only [World.size_alloc, World.size_setCell] at hs2
  have A_2 : w2.heap[w.heap.size]? = some (.cells #[.int .u64 an, .int .u64 ad] 24 (0, 0)) := below_at hb2 (by first | omega | (simp; done) | (simp; omega)) (by (repeat (first | (with_reducible assumption) | (with_reducible exact alloc_at _ _) | ((with_reducible apply alloc_at'); (simp; done)) | (with_reducible apply alloc_at_lt) | (with_reducible apply heap_drew_at) | (with_reducible apply heap_drewN_at) | (with_reducible apply heap_setCell_same) | ((with_reducible apply heap_set_ne); (first | omega | (dsimp only; omega) | (simp; done) | (simp; omega))) | (with_reducible apply setRow_at) | ((with_reducible apply setRow_ne); (first | omega | (dsimp only; omega) | (simp; done) | (simp; omega))))))
  have B_2 : w2.heap[w.heap.size + 1]? = some (.cells #[.int .u64 bn, .int .u64 bd] 24 (0, 0)) := below_at hb2 (by first | omega | (simp; done) | (simp; omega)) (by (repeat (first | (with_reducible assumption) | (with_reducible exact alloc_at _ _) | ((with_reducible apply alloc_at'); (simp; done)) | (with_reducible apply alloc_at_lt) | (with_reducible apply heap_drew_at) | (with_reducible apply heap_drewN_at) | (with_reducible apply heap_setCell_same) | ((with_reducible apply heap_set_ne); (first | omega | (dsimp only; omega) | (simp; done) | (simp; omega))) | (with_reducible apply setRow_at) | ((with_reducible apply setRow_ne); (first | omega | (dsimp only; omega) | (simp; done) | (simp; omega))))))
  have B2 : Below w.heap.size w w2 := Below.trans (by repeat (first | with_reducible assumption | with_reducible exact Below.refl _ _ | with_reducible refine Below.drew ?_ | with_reducible refine below_drewN ?_ _ | with_reducible refine below_alloc ?_ _ | with_reducible refine Below.alloc ?_ (by first | omega | (simp; done) | (simp; omega)) _ | with_reducible refine Below.setCell ?_ (by first | omega | (simp; done) | (simp; omega)) _ | with_reducible refine below_setRow ?_ (by first | omega | (simp; done) | (simp; omega)) _)) (hb2.mono (by first | omega | (simp; done) | (simp; omega)))
  clear hb2 A_1 B_1
  clear Ac0 Ac1 Acf
  clear Bc0 Bc1 Bcf
  have Ac0 : w2.cell? ⟨w.heap.size, 0, none⟩ = some (.int .u64 an) := (blk_cell A_2 0).trans rfl
  have Ac1 : w2.cell? ⟨w.heap.size, 1, none⟩ = some (.int .u64 ad) := (blk_cell A_2 1).trans rfl
  have Acf := blk_free A_2
  have Bc0 : w2.cell? ⟨w.heap.size + 1, 0, none⟩ = some (.int .u64 bn) := (blk_cell B_2 0).trans rfl
  have Bc1 : w2.cell? ⟨w.heap.size + 1, 1, none⟩ = some (.int .u64 bd) := (blk_cell B_2 1).trans rfl
  have Bcf := blk_free B_2
  have Al2 : w.heap.size < w2.heap.size := by omega
  have Bl2 : w.heap.size + 1 < w2.heap.size := by omega
  go_wp2_with fail
  refine (HB.out _).mono ?_
  rintro e w3 ⟨rfl, hb3⟩
  have hs3 := hb3.size
  try simp only [World.size_alloc, World.size_setCell] at hs3
  have A_3 : w3.heap[w.heap.size]? = some (.cells #[.int .u64 an, .int .u64 ad] 24 (0, 0)) := below_at hb3 (by first | omega | (simp; done) | (simp; omega)) (by (repeat (first | (with_reducible assumption) | (with_reducible exact alloc_at _ _) | ((with_reducible apply alloc_at'); (simp; done)) | (with_reducible apply alloc_at_lt) | (with_reducible apply heap_drew_at) | (with_reducible apply heap_drewN_at) | (with_reducible apply heap_setCell_same) | ((with_reducible apply heap_set_ne); (first | omega | (dsimp only; omega) | (simp; done) | (simp; omega))) | (with_reducible apply setRow_at) | ((with_reducible apply setRow_ne); (first | omega | (dsimp only; omega) | (simp; done) | (simp; omega))))))
  have B_3 : w3.heap[w.heap.size + 1]? = some (.cells #[.int .u64 bn, .int .u64 bd] 24 (0, 0)) := below_at hb3 (by first | omega | (simp; done) | (simp; omega)) (by (repeat (first | (with_reducible assumption) | (with_reducible exact alloc_at _ _) | ((with_reducible apply alloc_at'); (simp; done)) | (with_reducible apply alloc_at_lt) | (with_reducible apply heap_drew_at) | (with_reducible apply heap_drewN_at) | (with_reducible apply heap_setCell_same) | ((with_reducible apply heap_set_ne); (first | omega | (dsimp only; omega) | (simp; done) | (simp; omega))) | (with_reducible apply setRow_at) | ((with_reducible apply setRow_ne); (first | omega | (dsimp only; omega) | (simp; done) | (simp; omega))))))
  have S_3 : w3.heap[w2.heap.size]? = some (.cells #[.int .u64 sn, .int .u64 sd] 24 (0, 0)) := below_at hb3 (by first | omega | (simp; done) | (simp; omega)) (by (repeat (first | (with_reducible assumption) | (with_reducible exact alloc_at _ _) | ((with_reducible apply alloc_at'); (simp; done)) | (with_reducible apply alloc_at_lt) | (with_reducible apply heap_drew_at) | (with_reducible apply heap_drewN_at) | (with_reducible apply heap_setCell_same) | ((with_reducible apply heap_set_ne); (first | omega | (dsimp only; omega) | (simp; done) | (simp; omega))) | (with_reducible apply setRow_at) | ((with_reducible apply setRow_ne); (first | omega | (dsimp only; omega) | (simp; done) | (simp; omega))))))
  have B3 : Below w.heap.size w w3 := Below.trans (by repeat (first | with_reducible assumption | with_reducible exact Below.refl _ _ | with_reducible refine Below.drew ?_ | with_reducible refine below_drewN ?_ _ | with_reducible refine below_alloc ?_ _ | with_reducible refine Below.alloc ?_ (by first | omega | (simp; done) | (simp; omega)) _ | with_reducible refine Below.setCell ?_ (by first | omega | (simp; done) | (simp; omega)) _ | with_reducible refine below_setRow ?_ (by first | omega | (simp; done) | (simp; omega)) _)) (hb3.mono (by first | omega | (simp; done) | (simp; omega)))
  clear hb3 A_2 B_2
  clear Ac0 Ac1 Acf
  clear Bc0 Bc1 Bcf
  have Ac0 : w3.cell? ⟨w.heap.size, 0, none⟩ = some (.int .u64 an) := (blk_cell A_3 0).trans rfl
  have Ac1 : w3.cell? ⟨w.heap.size, 1, none⟩ = some (.int .u64 ad) := (blk_cell A_3 1).trans rfl
  have Acf := blk_free A_3
  have Bc0 : w3.cell? ⟨w.heap.size + 1, 0, none⟩ = some (.int .u64 bn) := (blk_cell B_3 0).trans rfl
  have Bc1 : w3.cell? ⟨w.heap.size + 1, 1, none⟩ = some (.int .u64 bd) := (blk_cell B_3 1).trans rfl
  have Bcf := blk_free B_3
  have Sc0 : w3.cell? ⟨w2.heap.size, 0, none⟩ = some (.int .u64 sn) := (blk_cell S_3 0).trans rfl
  have Sc1 : w3.cell? ⟨w2.heap.size, 1, none⟩ = some (.int .u64 sd) := (blk_cell S_3 1).trans rfl
  have Scf := blk_free S_3
  have Al3 : w.heap.size < w3.heap.size := by omega
  have Bl3 : w.heap.size + 1 < w3.heap.size := by omega
  have Sl3 : w2.heap.size < w3.heap.size := by omega
  go_wp2_with fail
  refine (HM.out _).mono ?_
  rintro e w4 ⟨rfl, hb4⟩
  have hs4 := hb4.size
  try simp only [World.size_alloc, World.size_setCell] at hs4
  have A_4 : w4.heap[w.heap.size]? = some (.cells #[.int .u64 an, .int .u64 ad] 24 (0, 0)) := below_at hb4 (by first | omega | (simp; done) | (simp; omega)) (by (repeat (first | (with_reducible assumption) | (with_reducible exact alloc_at _ _) | ((with_reducible apply alloc_at'); (simp; done)) | (with_reducible apply alloc_at_lt) | (with_reducible apply heap_drew_at) | (with_reducible apply heap_drewN_at) | (with_reducible apply heap_setCell_same) | ((with_reducible apply heap_set_ne); (first | omega | (dsimp only; omega) | (simp; done) | (simp; omega))) | (with_reducible apply setRow_at) | ((with_reducible apply setRow_ne); (first | omega | (dsimp only; omega) | (simp; done) | (simp; omega))))))
  have B_4 : w4.heap[w.heap.size + 1]? = some (.cells #[.int .u64 bn, .int .u64 bd] 24 (0, 0)) := below_at hb4 (by first | omega | (simp; done) | (simp; omega)) (by (repeat (first | (with_reducible assumption) | (with_reducible exact alloc_at _ _) | ((with_reducible apply alloc_at'); (simp; done)) | (with_reducible apply alloc_at_lt) | (with_reducible apply heap_drew_at) | (with_reducible apply heap_drewN_at) | (with_reducible apply heap_setCell_same) | ((with_reducible apply heap_set_ne); (first | omega | (dsimp only; omega) | (simp; done) | (simp; omega))) | (with_reducible apply setRow_at) | ((with_reducible apply setRow_ne); (first | omega | (dsimp only; omega) | (simp; done) | (simp; omega))))))
  have S_4 : w4.heap[w2.heap.size]? = some (.cells #[.int .u64 sn, .int .u64 sd] 24 (0, 0)) := below_at hb4 (by first | omega | (simp; done) | (simp; omega)) (by (repeat (first | (with_reducible assumption) | (with_reducible exact alloc_at _ _) | ((with_reducible apply alloc_at'); (simp; done)) | (with_reducible apply alloc_at_lt) | (with_reducible apply heap_drew_at) | (with_reducible apply heap_drewN_at) | (with_reducible apply heap_setCell_same) | ((with_reducible apply heap_set_ne); (first | omega | (dsimp only; omega) | (simp; done) | (simp; omega))) | (with_reducible apply setRow_at) | ((with_reducible apply setRow_ne); (first | omega | (dsimp only; omega) | (simp; done) | (simp; omega))))))
  have T_4 : w4.heap[w3.heap.size]? = some (.cells #[.int .u64 sn, .int .u64 sd] 24 (0, 0)) := below_at hb4 (by first | omega | (simp; done) | (simp; omega)) (by (repeat (first | (with_reducible assumption) | (with_reducible exact alloc_at _ _) | ((with_reducible apply alloc_at'); (simp; done)) | (with_reducible apply alloc_at_lt) | (with_reducible apply heap_drew_at) | (with_reducible apply heap_drewN_at) | (with_reducible apply heap_setCell_same) | ((with_reducible apply heap_set_ne); (first | omega | (dsimp only; omega) | (simp; done) | (simp; omega))) | (with_reducible apply setRow_at) | ((with_reducible apply setRow_ne); (first | omega | (dsimp only; omega) | (simp; done) | (simp; omega))))))
  have B4 : Below w.heap.size w w4 := Below.trans (by repeat (first | with_reducible assumption | with_reducible exact Below.refl _ _ | with_reducible refine Below.drew ?_ | with_reducible refine below_drewN ?_ _ | with_reducible refine below_alloc ?_ _ | with_reducible refine Below.alloc ?_ (by first | omega | (simp; done) | (simp; omega)) _ | with_reducible refine Below.setCell ?_ (by first | omega | (simp; done) | (simp; omega)) _ | with_reducible refine below_setRow ?_ (by first | omega | (simp; done) | (simp; omega)) _)) (hb4.mono (by first | omega | (simp; done) | (simp; omega)))
  clear hb4 A_3 B_3 S_3
  clear Ac0 Ac1 Acf
  clear Bc0 Bc1 Bcf
  clear Sc0 Sc1 Scf
  have Ac0 : w4.cell? ⟨w.heap.size, 0, none⟩ = some (.int .u64 an) := (blk_cell A_4 0).trans rfl
  have Ac1 : w4.cell? ⟨w.heap.size, 1, none⟩ = some (.int .u64 ad) := (blk_cell A_4 1).trans rfl
  have Acf := blk_free A_4
  have Bc0 : w4.cell? ⟨w.heap.size + 1, 0, none⟩ = some (.int .u64 bn) := (blk_cell B_4 0).trans rfl
  have Bc1 : w4.cell? ⟨w.heap.size + 1, 1, none⟩ = some (.int .u64 bd) := (blk_cell B_4 1).trans rfl
  have Bcf := blk_free B_4
  have Sc0 : w4.cell? ⟨w2.heap.size, 0, none⟩ = some (.int .u64 sn) := (blk_cell S_4 0).trans rfl
  have Sc1 : w4.cell? ⟨w2.heap.size, 1, none⟩ = some (.int .u64 sd) := (blk_cell S_4 1).trans rfl
  have Scf := blk_free S_4
  have Tc0 : w4.cell? ⟨w3.heap.size, 0, none⟩ = some (.int .u64 sn) := (blk_cell T_4 0).trans rfl
  have Tc1 : w4.cell? ⟨w3.heap.size, 1, none⟩ = some (.int .u64 sd) := (blk_cell T_4 1).trans rfl
  have Tcf := blk_free T_4
  have Al4 : w.heap.size < w4.heap.size := by omega
  have Bl4 : w.heap.size + 1 < w4.heap.size := by omega
  have Sl4 : w2.heap.size < w4.heap.size := by omega
  have Tl4 : w3.heap.size < w4.heap.size := by omega
  go_wp2_with fail
  refine (HN.out _).mono ?_
  rintro e w5 ⟨rfl, hb5⟩
  have hs5 := hb5.size
  try simp only [World.size_alloc, World.size_setCell] at hs5
  have A_5 : w5.heap[w.heap.size]? = some (.cells #[.int .u64 an, .int .u64 ad] 24 (0, 0)) := below_at hb5 (by first | omega | (simp; done) | (simp; omega)) (by (repeat (first | (with_reducible assumption) | (with_reducible exact alloc_at _ _) | ((with_reducible apply alloc_at'); (simp; done)) | (with_reducible apply alloc_at_lt) | (with_reducible apply heap_drew_at) | (with_reducible apply heap_drewN_at) | (with_reducible apply heap_setCell_same) | ((with_reducible apply heap_set_ne); (first | omega | (dsimp only; omega) | (simp; done) | (simp; omega))) | (with_reducible apply setRow_at) | ((with_reducible apply setRow_ne); (first | omega | (dsimp only; omega) | (simp; done) | (simp; omega))))))
  have B_5 : w5.heap[w.heap.size + 1]? = some (.cells #[.int .u64 bn, .int .u64 bd] 24 (0, 0)) := below_at hb5 (by first | omega | (simp; done) | (simp; omega)) (by (repeat (first | (with_reducible assumption) | (with_reducible exact alloc_at _ _) | ((with_reducible apply alloc_at'); (simp; done)) | (with_reducible apply alloc_at_lt) | (with_reducible apply heap_drew_at) | (with_reducible apply heap_drewN_at) | (with_reducible apply heap_setCell_same) | ((with_reducible apply heap_set_ne); (first | omega | (dsimp only; omega) | (simp; done) | (simp; omega))) | (with_reducible apply setRow_at) | ((with_reducible apply setRow_ne); (first | omega | (dsimp only; omega) | (simp; done) | (simp; omega))))))
  have S_5 : w5.heap[w2.heap.size]? = some (.cells #[.int .u64 sn, .int .u64 sd] 24 (0, 0)) := below_at hb5 (by first | omega | (simp; done) | (simp; omega)) (by (repeat (first | (with_reducible assumption) | (with_reducible exact alloc_at _ _) | ((with_reducible apply alloc_at'); (simp; done)) | (with_reducible apply alloc_at_lt) | (with_reducible apply heap_drew_at) | (with_reducible apply heap_drewN_at) | (with_reducible apply heap_setCell_same) | ((with_reducible apply heap_set_ne); (first | omega | (dsimp only; omega) | (simp; done) | (simp; omega))) | (with_reducible apply setRow_at) | ((with_reducible apply setRow_ne); (first | omega | (dsimp only; omega) | (simp; done) | (simp; omega))))))
  have T_5 : w5.heap[w3.heap.size]? = some (.cells #[.int .u64 sn, .int .u64 sd] 24 (0, 0)) := below_at hb5 (by first | omega | (simp; done) | (simp; omega)) (by (repeat (first | (with_reducible assumption) | (with_reducible exact alloc_at _ _) | ((with_reducible apply alloc_at'); (simp; done)) | (with_reducible apply alloc_at_lt) | (with_reducible apply heap_drew_at) | (with_reducible apply heap_drewN_at) | (with_reducible apply heap_setCell_same) | ((with_reducible apply heap_set_ne); (first | omega | (dsimp only; omega) | (simp; done) | (simp; omega))) | (with_reducible apply setRow_at) | ((with_reducible apply setRow_ne); (first | omega | (dsimp only; omega) | (simp; done) | (simp; omega))))))
  have P_5 : w5.heap[w4.heap.size]? = some (.cells #[.int .u64 pn, .int .u64 pd] 24 (0, 0)) := below_at hb5 (by first | omega | (simp; done) | (simp; omega)) (by (repeat (first | (with_reducible assumption) | (with_reducible exact alloc_at _ _) | ((with_reducible apply alloc_at'); (simp; done)) | (with_reducible apply alloc_at_lt) | (with_reducible apply heap_drew_at) | (with_reducible apply heap_drewN_at) | (with_reducible apply heap_setCell_same) | ((with_reducible apply heap_set_ne); (first | omega | (dsimp only; omega) | (simp; done) | (simp; omega))) | (with_reducible apply setRow_at) | ((with_reducible apply setRow_ne); (first | omega | (dsimp only; omega) | (simp; done) | (simp; omega))))))
  have B5 : Below w.heap.size w w5 := Below.trans (by repeat (first | with_reducible assumption | with_reducible exact Below.refl _ _ | with_reducible refine Below.drew ?_ | with_reducible refine below_drewN ?_ _ | with_reducible refine below_alloc ?_ _ | with_reducible refine Below.alloc ?_ (by first | omega | (simp; done) | (simp; omega)) _ | with_reducible refine Below.setCell ?_ (by first | omega | (simp; done) | (simp; omega)) _ | with_reducible refine below_setRow ?_ (by first | omega | (simp; done) | (simp; omega)) _)) (hb5.mono (by first | omega | (simp; done) | (simp; omega)))
  clear hb5 A_4 B_4 S_4 T_4
  clear Ac0 Ac1 Acf
  clear Bc0 Bc1 Bcf
  clear Sc0 Sc1 Scf
  clear Tc0 Tc1 Tcf
  have Ac0 : w5.cell? ⟨w.heap.size, 0, none⟩ = some (.int .u64 an) := (blk_cell A_5 0).trans rfl
  have Ac1 : w5.cell? ⟨w.heap.size, 1, none⟩ = some (.int .u64 ad) := (blk_cell A_5 1).trans rfl
  have Acf := blk_free A_5
  have Bc0 : w5.cell? ⟨w.heap.size + 1, 0, none⟩ = some (.int .u64 bn) := (blk_cell B_5 0).trans rfl
  have Bc1 : w5.cell? ⟨w.heap.size + 1, 1, none⟩ = some (.int .u64 bd) := (blk_cell B_5 1).trans rfl
  have Bcf := blk_free B_5
  have Sc0 : w5.cell? ⟨w2.heap.size, 0, none⟩ = some (.int .u64 sn) := (blk_cell S_5 0).trans rfl
  have Sc1 : w5.cell? ⟨w2.heap.size, 1, none⟩ = some (.int .u64 sd) := (blk_cell S_5 1).trans rfl
  have Scf := blk_free S_5
  have Tc0 : w5.cell? ⟨w3.heap.size, 0, none⟩ = some (.int .u64 sn) := (blk_cell T_5 0).trans rfl
  have Tc1 : w5.cell? ⟨w3.heap.size, 1, none⟩ = some (.int .u64 sd) := (blk_cell T_5 1).trans rfl
  have Tcf := blk_free T_5
  have Pc0 : w5.cell? ⟨w4.heap.size, 0, none⟩ = some (.int .u64 pn) := (blk_cell P_5 0).trans rfl
  have Pc1 : w5.cell? ⟨w4.heap.size, 1, none⟩ = some (.int .u64 pd) := (blk_cell P_5 1).trans rfl
  have Pcf := blk_free P_5
  have Al5 : w.heap.size < w5.heap.size := by omega
  have Bl5 : w.heap.size + 1 < w5.heap.size := by omega
  have Sl5 : w2.heap.size < w5.heap.size := by omega
  have Tl5 : w3.heap.size < w5.heap.size := by omega
  have Pl5 : w4.heap.size < w5.heap.size := by omega
  go_wp2_with fail
  refine (HS.out _).mono ?_
  rintro e w6 ⟨rfl, hb6⟩
  have hs6 := hb6.size
  try simp only [World.size_alloc, World.size_setCell] at hs6
  have A_6 : w6.heap[w.heap.size]? = some (.cells #[.int .u64 an, .int .u64 ad] 24 (0, 0)) := below_at hb6 (by first | omega | (simp; done) | (simp; omega)) (by (repeat (first | (with_reducible assumption) | (with_reducible exact alloc_at _ _) | ((with_reducible apply alloc_at'); (simp; done)) | (with_reducible apply alloc_at_lt) | (with_reducible apply heap_drew_at) | (with_reducible apply heap_drewN_at) | (with_reducible apply heap_setCell_same) | ((with_reducible apply heap_set_ne); (first | omega | (dsimp only; omega) | (simp; done) | (simp; omega))) | (with_reducible apply setRow_at) | ((with_reducible apply setRow_ne); (first | omega | (dsimp only; omega) | (simp; done) | (simp; omega))))))
  have B_6 : w6.heap[w.heap.size + 1]? = some (.cells #[.int .u64 bn, .int .u64 bd] 24 (0, 0)) := below_at hb6 (by first | omega | (simp; done) | (simp; omega)) (by (repeat (first | (with_reducible assumption) | (with_reducible exact alloc_at _ _) | ((with_reducible apply alloc_at'); (simp; done)) | (with_reducible apply alloc_at_lt) | (with_reducible apply heap_drew_at) | (with_reducible apply heap_drewN_at) | (with_reducible apply heap_setCell_same) | ((with_reducible apply heap_set_ne); (first | omega | (dsimp only; omega) | (simp; done) | (simp; omega))) | (with_reducible apply setRow_at) | ((with_reducible apply setRow_ne); (first | omega | (dsimp only; omega) | (simp; done) | (simp; omega))))))
  have S_6 : w6.heap[w2.heap.size]? = some (.cells #[.int .u64 sn, .int .u64 sd] 24 (0, 0)) := below_at hb6 (by first | omega | (simp; done) | (simp; omega)) (by (repeat (first | (with_reducible assumption) | (with_reducible exact alloc_at _ _) | ((with_reducible apply alloc_at'); (simp; done)) | (with_reducible apply alloc_at_lt) | (with_reducible apply heap_drew_at) | (with_reducible apply heap_drewN_at) | (with_reducible apply heap_setCell_same) | ((with_reducible apply heap_set_ne); (first | omega | (dsimp only; omega) | (simp; done) | (simp; omega))) | (with_reducible apply setRow_at) | ((with_reducible apply setRow_ne); (first | omega | (dsimp only; omega) | (simp; done) | (simp; omega))))))
  have T_6 : w6.heap[w3.heap.size]? = some (.cells #[.int .u64 sn, .int .u64 sd] 24 (0, 0)) := below_at hb6 (by first | omega | (simp; done) | (simp; omega)) (by (repeat (first | (with_reducible assumption) | (with_reducible exact alloc_at _ _) | ((with_reducible apply alloc_at'); (simp; done)) | (with_reducible apply alloc_at_lt) | (with_reducible apply heap_drew_at) | (with_reducible apply heap_drewN_at) | (with_reducible apply heap_setCell_same) | ((with_reducible apply heap_set_ne); (first | omega | (dsimp only; omega) | (simp; done) | (simp; omega))) | (with_reducible apply setRow_at) | ((with_reducible apply setRow_ne); (first | omega | (dsimp only; omega) | (simp; done) | (simp; omega))))))
  have P_6 : w6.heap[w4.heap.size]? = some (.cells #[.int .u64 pn, .int .u64 pd] 24 (0, 0)) := below_at hb6 (by first | omega | (simp; done) | (simp; omega)) (by (repeat (first | (with_reducible assumption) | (with_reducible exact alloc_at _ _) | ((with_reducible apply alloc_at'); (simp; done)) | (with_reducible apply alloc_at_lt) | (with_reducible apply heap_drew_at) | (with_reducible apply heap_drewN_at) | (with_reducible apply heap_setCell_same) | ((with_reducible apply heap_set_ne); (first | omega | (dsimp only; omega) | (simp; done) | (simp; omega))) | (with_reducible apply setRow_at) | ((with_reducible apply setRow_ne); (first | omega | (dsimp only; omega) | (simp; done) | (simp; omega))))))
  have Q_6 : w6.heap[w5.heap.size]? = some (.cells #[.int .u64 pn, .int .u64 pd] 24 (0, 0)) := below_at hb6 (by first | omega | (simp; done) | (simp; omega)) (by (repeat (first | (with_reducible assumption) | (with_reducible exact alloc_at _ _) | ((with_reducible apply alloc_at'); (simp; done)) | (with_reducible apply alloc_at_lt) | (with_reducible apply heap_drew_at) | (with_reducible apply heap_drewN_at) | (with_reducible apply heap_setCell_same) | ((with_reducible apply heap_set_ne); (first | omega | (dsimp only; omega) | (simp; done) | (simp; omega))) | (with_reducible apply setRow_at) | ((with_reducible apply setRow_ne); (first | omega | (dsimp only; omega) | (simp; done) | (simp; omega))))))
  have B6 : Below w.heap.size w w6 := Below.trans (by repeat (first | with_reducible assumption | with_reducible exact Below.refl _ _ | with_reducible refine Below.drew ?_ | with_reducible refine below_drewN ?_ _ | with_reducible refine below_alloc ?_ _ | with_reducible refine Below.alloc ?_ (by first | omega | (simp; done) | (simp; omega)) _ | with_reducible refine Below.setCell ?_ (by first | omega | (simp; done) | (simp; omega)) _ | with_reducible refine below_setRow ?_ (by first | omega | (simp; done) | (simp; omega)) _)) (hb6.mono (by first | omega | (simp; done) | (simp; omega)))
  clear hb6 A_5 B_5 S_5 T_5 P_5
  clear Ac0 Ac1 Acf
  clear Bc0 Bc1 Bcf
  clear Sc0 Sc1 Scf
  clear Tc0 Tc1 Tcf
  clear Pc0 Pc1 Pcf
  have Ac0 : w6.cell? ⟨w.heap.size, 0, none⟩ = some (.int .u64 an) := (blk_cell A_6 0).trans rfl
  have Ac1 : w6.cell? ⟨w.heap.size, 1, none⟩ = some (.int .u64 ad) := (blk_cell A_6 1).trans rfl
  have Acf := blk_free A_6
  have Bc0 : w6.cell? ⟨w.heap.size + 1, 0, none⟩ = some (.int .u64 bn) := (blk_cell B_6 0).trans rfl
  have Bc1 : w6.cell? ⟨w.heap.size + 1, 1, none⟩ = some (.int .u64 bd) := (blk_cell B_6 1).trans rfl
  have Bcf := blk_free B_6
  have Sc0 : w6.cell? ⟨w2.heap.size, 0, none⟩ = some (.int .u64 sn) := (blk_cell S_6 0).trans rfl
  have Sc1 : w6.cell? ⟨w2.heap.size, 1, none⟩ = some (.int .u64 sd) := (blk_cell S_6 1).trans rfl
  have Scf := blk_free S_6
  have Tc0 : w6.cell? ⟨w3.heap.size, 0, none⟩ = some (.int .u64 sn) := (blk_cell T_6 0).trans rfl
  have Tc1 : w6.cell? ⟨w3.heap.size, 1, none⟩ = some (.int .u64 sd) := (blk_cell T_6 1).trans rfl
  have Tcf := blk_free T_6
  have Pc0 : w6.cell? ⟨w4.heap.size, 0, none⟩ = some (.int .u64 pn) := (blk_cell P_6 0).trans rfl
  have Pc1 : w6.cell? ⟨w4.heap.size, 1, none⟩ = some (.int .u64 pd) := (blk_cell P_6 1).trans rfl
  have Pcf := blk_free P_6
  have Qc0 : w6.cell? ⟨w5.heap.size, 0, none⟩ = some (.int .u64 pn) := (blk_cell Q_6 0).trans rfl
  have Qc1 : w6.cell? ⟨w5.heap.size, 1, none⟩ = some (.int .u64 pd) := (blk_cell Q_6 1).trans rfl
  have Qcf := blk_free Q_6
  have Al6 : w.heap.size < w6.heap.size := by omega
  have Bl6 : w.heap.size + 1 < w6.heap.size := by omega
  have Sl6 : w2.heap.size < w6.heap.size := by omega
  have Tl6 : w3.heap.size < w6.heap.size := by omega
  have Pl6 : w4.heap.size < w6.heap.size := by omega
  have Ql6 : w5.heap.size < w6.heap.size := by omega
  go_wp2_with fail
  refine (HC.out _).mono ?_
  rintro e w7 ⟨rfl, hb7⟩
  have hs7 := hb7.size
  try simp only [World.size_alloc, World.size_setCell] at hs7
  have A_7 : w7.heap[w.heap.size]? = some (.cells #[.int .u64 an, .int .u64 ad] 24 (0, 0)) := below_at hb7 (by first | omega | (simp; done) | (simp; omega)) (by (repeat (first | (with_reducible assumption) | (with_reducible exact alloc_at _ _) | ((with_reducible apply alloc_at'); (simp; done)) | (with_reducible apply alloc_at_lt) | (with_reducible apply heap_drew_at) | (with_reducible apply heap_drewN_at) | (with_reducible apply heap_setCell_same) | ((with_reducible apply heap_set_ne); (first | omega | (dsimp only; omega) | (simp; done) | (simp; omega))) | (with_reducible apply setRow_at) | ((with_reducible apply setRow_ne); (first | omega | (dsimp only; omega) | (simp; done) | (simp; omega))))))
  have B_7 : w7.heap[w.heap.size + 1]? = some (.cells #[.int .u64 bn, .int .u64 bd] 24 (0, 0)) := below_at hb7 (by first | omega | (simp; done) | (simp; omega)) (by (repeat (first | (with_reducible assumption) | (with_reducible exact alloc_at _ _) | ((with_reducible apply alloc_at'); (simp; done)) | (with_reducible apply alloc_at_lt) | (with_reducible apply heap_drew_at) | (with_reducible apply heap_drewN_at) | (with_reducible apply heap_setCell_same) | ((with_reducible apply heap_set_ne); (first | omega | (dsimp only; omega) | (simp; done) | (simp; omega))) | (with_reducible apply setRow_at) | ((with_reducible apply setRow_ne); (first | omega | (dsimp only; omega) | (simp; done) | (simp; omega))))))
  have S_7 : w7.heap[w2.heap.size]? = some (.cells #[.int .u64 sn, .int .u64 sd] 24 (0, 0)) := below_at hb7 (by first | omega | (simp; done) | (simp; omega)) (by (repeat (first | (with_reducible assumption) | (with_reducible exact alloc_at _ _) | ((with_reducible apply alloc_at'); (simp; done)) | (with_reducible apply alloc_at_lt) | (with_reducible apply heap_drew_at) | (with_reducible apply heap_drewN_at) | (with_reducible apply heap_setCell_same) | ((with_reducible apply heap_set_ne); (first | omega | (dsimp only; omega) | (simp; done) | (simp; omega))) | (with_reducible apply setRow_at) | ((with_reducible apply setRow_ne); (first | omega | (dsimp only; omega) | (simp; done) | (simp; omega))))))
  have T_7 : w7.heap[w3.heap.size]? = some (.cells #[.int .u64 sn, .int .u64 sd] 24 (0, 0)) := below_at hb7 (by first | omega | (simp; done) | (simp; omega)) (by (repeat (first | (with_reducible assumption) | (with_reducible exact alloc_at _ _) | ((with_reducible apply alloc_at'); (simp; done)) | (with_reducible apply alloc_at_lt) | (with_reducible apply heap_drew_at) | (with_reducible apply heap_drewN_at) | (with_reducible apply heap_setCell_same) | ((with_reducible apply heap_set_ne); (first | omega | (dsimp only; omega) | (simp; done) | (simp; omega))) | (with_reducible apply setRow_at) | ((with_reducible apply setRow_ne); (first | omega | (dsimp only; omega) | (simp; done) | (simp; omega))))))
  have P_7 : w7.heap[w4.heap.size]? = some (.cells #[.int .u64 pn, .int .u64 pd] 24 (0, 0)) := below_at hb7 (by first | omega | (simp; done) | (simp; omega)) (by (repeat (first | (with_reducible assumption) | (with_reducible exact alloc_at _ _) | ((with_reducible apply alloc_at'); (simp; done)) | (with_reducible apply alloc_at_lt) | (with_reducible apply heap_drew_at) | (with_reducible apply heap_drewN_at) | (with_reducible apply heap_setCell_same) | ((with_reducible apply heap_set_ne); (first | omega | (dsimp only; omega) | (simp; done) | (simp; omega))) | (with_reducible apply setRow_at) | ((with_reducible apply setRow_ne); (first | omega | (dsimp only; omega) | (simp; done) | (simp; omega))))))
  have Q_7 : w7.heap[w5.heap.size]? = some (.cells #[.int .u64 pn, .int .u64 pd] 24 (0, 0)) := below_at hb7 (by first | omega | (simp; done) | (simp; omega)) (by (repeat (first | (with_reducible assumption) | (with_reducible exact alloc_at _ _) | ((with_reducible apply alloc_at'); (simp; done)) | (with_reducible apply alloc_at_lt) | (with_reducible apply heap_drew_at) | (with_reducible apply heap_drewN_at) | (with_reducible apply heap_setCell_same) | ((with_reducible apply heap_set_ne); (first | omega | (dsimp only; omega) | (simp; done) | (simp; omega))) | (with_reducible apply setRow_at) | ((with_reducible apply setRow_ne); (first | omega | (dsimp only; omega) | (simp; done) | (simp; omega))))))
  have D_7 : w7.heap[w6.heap.size]? = some (.cells #[.int .u64 r, .int .u64 t] 24 (0, 0)) := below_at hb7 (by first | omega | (simp; done) | (simp; omega)) (by (repeat (first | (with_reducible assumption) | (with_reducible exact alloc_at _ _) | ((with_reducible apply alloc_at'); (simp; done)) | (with_reducible apply alloc_at_lt) | (with_reducible apply heap_drew_at) | (with_reducible apply heap_drewN_at) | (with_reducible apply heap_setCell_same) | ((with_reducible apply heap_set_ne); (first | omega | (dsimp only; omega) | (simp; done) | (simp; omega))) | (with_reducible apply setRow_at) | ((with_reducible apply setRow_ne); (first | omega | (dsimp only; omega) | (simp; done) | (simp; omega))))))
  have B7 : Below w.heap.size w w7 := Below.trans (by repeat (first | with_reducible assumption | with_reducible exact Below.refl _ _ | with_reducible refine Below.drew ?_ | with_reducible refine below_drewN ?_ _ | with_reducible refine below_alloc ?_ _ | with_reducible refine Below.alloc ?_ (by first | omega | (simp; done) | (simp; omega)) _ | with_reducible refine Below.setCell ?_ (by first | omega | (simp; done) | (simp; omega)) _ | with_reducible refine below_setRow ?_ (by first | omega | (simp; done) | (simp; omega)) _)) (hb7.mono (by first | omega | (simp; done) | (simp; omega)))
  clear hb7 A_6 B_6 S_6 T_6 P_6 Q_6
  clear Ac0 Ac1 Acf
  clear Bc0 Bc1 Bcf
  clear Sc0 Sc1 Scf
  clear Tc0 Tc1 Tcf
  clear Pc0 Pc1 Pcf
  clear Qc0 Qc1 Qcf
  have Ac0 : w7.cell? ⟨w.heap.size, 0, none⟩ = some (.int .u64 an) := (blk_cell A_7 0).trans rfl
  have Ac1 : w7.cell? ⟨w.heap.size, 1, none⟩ = some (.int .u64 ad) := (blk_cell A_7 1).trans rfl
  have Acf := blk_free A_7
  have Bc0 : w7.cell? ⟨w.heap.size + 1, 0, none⟩ = some (.int .u64 bn) := (blk_cell B_7 0).trans rfl
  have Bc1 : w7.cell? ⟨w.heap.size + 1, 1, none⟩ = some (.int .u64 bd) := (blk_cell B_7 1).trans rfl
  have Bcf := blk_free B_7
  have Sc0 : w7.cell? ⟨w2.heap.size, 0, none⟩ = some (.int .u64 sn) := (blk_cell S_7 0).trans rfl
  have Sc1 : w7.cell? ⟨w2.heap.size, 1, none⟩ = some (.int .u64 sd) := (blk_cell S_7 1).trans rfl
  have Scf := blk_free S_7
  have Tc0 : w7.cell? ⟨w3.heap.size, 0, none⟩ = some (.int .u64 sn) := (blk_cell T_7 0).trans rfl
  have Tc1 : w7.cell? ⟨w3.heap.size, 1, none⟩ = some (.int .u64 sd) := (blk_cell T_7 1).trans rfl
  have Tcf := blk_free T_7
  have Pc0 : w7.cell? ⟨w4.heap.size, 0, none⟩ = some (.int .u64 pn) := (blk_cell P_7 0).trans rfl
  have Pc1 : w7.cell? ⟨w4.heap.size, 1, none⟩ = some (.int .u64 pd) := (blk_cell P_7 1).trans rfl
  have Pcf := blk_free P_7
  have Qc0 : w7.cell? ⟨w5.heap.size, 0, none⟩ = some (.int .u64 pn) := (blk_cell Q_7 0).trans rfl
  have Qc1 : w7.cell? ⟨w5.heap.size, 1, none⟩ = some (.int .u64 pd) := (blk_cell Q_7 1).trans rfl
  have Qcf := blk_free Q_7
  have Dc0 : w7.cell? ⟨w6.heap.size, 0, none⟩ = some (.int .u64 r) := (blk_cell D_7 0).trans rfl
  have Dc1 : w7.cell? ⟨w6.heap.size, 1, none⟩ = some (.int .u64 t) := (blk_cell D_7 1).trans rfl
  have Dcf := blk_free D_7
  have Al7 : w.heap.size < w7.heap.size := by omega
  have Bl7 : w.heap.size + 1 < w7.heap.size := by omega
  have Sl7 : w2.heap.size < w7.heap.size := by omega
  have Tl7 : w3.heap.size < w7.heap.size := by omega
  have Pl7 : w4.heap.size < w7.heap.size := by omega
  have Ql7 : w5.heap.size < w7.heap.size := by omega
  have Dl7 : w6.heap.size < w7.heap.size := by omega
  go_wp2
  go_ret
  exact ⟨by first | rfl | simp, (by repeat (first | with_reducible assumption | with_reducible exact Below.refl _ _ | with_reducible refine Below.drew ?_ | with_reducible refine below_drewN ?_ _ | with_reducible refine below_alloc ?_ _ | with_reducible refine Below.alloc ?_ (by first | omega | (simp; done) | (simp; omega)) _ | with_reducible refine Below.setCell ?_ (by first | omega | (simp; done) | (simp; omega)) _ | with_reducible refine below_setRow ?_ (by first | omega | (simp; done) | (simp; omega)) _))⟩
set_option maxRecDepth 100000 in
set_option maxHeartbeats 4000000 in
theorem back_k (an ad bn bd sn sd pn pd pe r t : Int) (w : World) (HS : Hid (∀ W, Calls Try.prog 18 #[.agg #[.int .u64 sn, .int .u64 sd], .agg #[.int .u64 bn, .int .u64 bd]] W fun e w' => e = .returned (.tuple #[.agg #[.int .u64 r, .int .u64 t], .int .i64 0]) ∧ Below W.heap.size W w')) (HC : Hid (∀ W, Calls Try.prog 11 #[.agg #[.int .u64 r, .int .u64 t], .agg #[.int .u64 an, .int .u64 ad]] W fun e w' => e = .returned (.tuple #[.int .i64 0, .int .i64 0]) ∧ Below W.heap.size W w'))
    (HA : Hid (∀ W, Calls Try.prog 15 #[.agg #[.int .u64 an, .int .u64 ad], .agg #[.int .u64 bn, .int .u64 bd]] W fun e w' => e = .returned (.tuple #[.agg #[.int .u64 sn, .int .u64 sd], .int .i64 0]) ∧ Below W.heap.size W w')) (HB : Hid (∀ W, Calls Try.prog 15 #[.agg #[.int .u64 bn, .int .u64 bd], .agg #[.int .u64 an, .int .u64 ad]] W fun e w' => e = .returned (.tuple #[.agg #[.int .u64 sn, .int .u64 sd], .int .i64 0]) ∧ Below W.heap.size W w')) (HM : Hid (∀ W, Calls Try.prog 16 #[.agg #[.int .u64 an, .int .u64 ad], .agg #[.int .u64 bn, .int .u64 bd]] W fun e w' => e = .returned (.tuple #[.agg #[.int .u64 pn, .int .u64 pd], .int .i64 pe]) ∧ Below W.heap.size W w')) (HN : Hid (∀ W, Calls Try.prog 16 #[.agg #[.int .u64 bn, .int .u64 bd], .agg #[.int .u64 an, .int .u64 ad]] W fun e w' => e = .returned (.tuple #[.agg #[.int .u64 pn, .int .u64 pd], .int .i64 pe]) ∧ Below W.heap.size W w')) :
    Calls Try.prog 7 #[.agg #[.int .u64 an, .int .u64 ad], .agg #[.int .u64 bn, .int .u64 bd]] w fun e w' => e = .returned (.bool true) ∧ Below w.heap.size w w' := by
  go_enter Try.func7, Try.ntmps7
  go_wp2_with fail
  refine (awake2_any _).mono ?_
  rintro e w1 ⟨rfl, hb1⟩
  have hs1 := hb1.size
  try simp only [World.size_alloc, World.size_setCell] at hs1
  have A_1 : w1.heap[w.heap.size]? = some (.cells #[.int .u64 an, .int .u64 ad] 24 (0, 0)) := below_at hb1 (by first | omega | (simp; done) | (simp; omega)) (by (repeat (first | (with_reducible assumption) | (with_reducible exact alloc_at _ _) | ((with_reducible apply alloc_at'); (simp; done)) | (with_reducible apply alloc_at_lt) | (with_reducible apply heap_drew_at) | (with_reducible apply heap_drewN_at) | (with_reducible apply heap_setCell_same) | ((with_reducible apply heap_set_ne); (first | omega | (dsimp only; omega) | (simp; done) | (simp; omega))) | (with_reducible apply setRow_at) | ((with_reducible apply setRow_ne); (first | omega | (dsimp only; omega) | (simp; done) | (simp; omega))))))
  have B_1 : w1.heap[w.heap.size + 1]? = some (.cells #[.int .u64 bn, .int .u64 bd] 24 (0, 0)) := below_at hb1 (by first | omega | (simp; done) | (simp; omega)) (by (repeat (first | (with_reducible assumption) | (with_reducible exact alloc_at _ _) | ((with_reducible apply alloc_at'); (simp; done)) | (with_reducible apply alloc_at_lt) | (with_reducible apply heap_drew_at) | (with_reducible apply heap_drewN_at) | (with_reducible apply heap_setCell_same) | ((with_reducible apply heap_set_ne); (first | omega | (dsimp only; omega) | (simp; done) | (simp; omega))) | (with_reducible apply setRow_at) | ((with_reducible apply setRow_ne); (first | omega | (dsimp only; omega) | (simp; done) | (simp; omega))))))
  have B1 : Below w.heap.size w w1 := Below.trans (by repeat (first | with_reducible assumption | with_reducible exact Below.refl _ _ | with_reducible refine Below.drew ?_ | with_reducible refine below_drewN ?_ _ | with_reducible refine below_alloc ?_ _ | with_reducible refine Below.alloc ?_ (by first | omega | (simp; done) | (simp; omega)) _ | with_reducible refine Below.setCell ?_ (by first | omega | (simp; done) | (simp; omega)) _ | with_reducible refine below_setRow ?_ (by first | omega | (simp; done) | (simp; omega)) _)) (hb1.mono (by first | omega | (simp; done) | (simp; omega)))
  clear hb1
  have Ac0 : w1.cell? ⟨w.heap.size, 0, none⟩ = some (.int .u64 an) := (blk_cell A_1 0).trans rfl
  have Ac1 : w1.cell? ⟨w.heap.size, 1, none⟩ = some (.int .u64 ad) := (blk_cell A_1 1).trans rfl
  have Acf := blk_free A_1
  have Bc0 : w1.cell? ⟨w.heap.size + 1, 0, none⟩ = some (.int .u64 bn) := (blk_cell B_1 0).trans rfl
  have Bc1 : w1.cell? ⟨w.heap.size + 1, 1, none⟩ = some (.int .u64 bd) := (blk_cell B_1 1).trans rfl
  have Bcf := blk_free B_1
  have Al1 : w.heap.size < w1.heap.size := by omega
  have Bl1 : w.heap.size + 1 < w1.heap.size := by omega
  go_wp2_with fail
  refine (HA.out _).mono ?_
  rintro e w2 ⟨rfl, hb2⟩
  have hs2 := hb2.size
  try simp only [World.size_alloc, World.size_setCell] at hs2
  have A_2 : w2.heap[w.heap.size]? = some (.cells #[.int .u64 an, .int .u64 ad] 24 (0, 0)) := below_at hb2 (by first | omega | (simp; done) | (simp; omega)) (by (repeat (first | (with_reducible assumption) | (with_reducible exact alloc_at _ _) | ((with_reducible apply alloc_at'); (simp; done)) | (with_reducible apply alloc_at_lt) | (with_reducible apply heap_drew_at) | (with_reducible apply heap_drewN_at) | (with_reducible apply heap_setCell_same) | ((with_reducible apply heap_set_ne); (first | omega | (dsimp only; omega) | (simp; done) | (simp; omega))) | (with_reducible apply setRow_at) | ((with_reducible apply setRow_ne); (first | omega | (dsimp only; omega) | (simp; done) | (simp; omega))))))
  have B_2 : w2.heap[w.heap.size + 1]? = some (.cells #[.int .u64 bn, .int .u64 bd] 24 (0, 0)) := below_at hb2 (by first | omega | (simp; done) | (simp; omega)) (by (repeat (first | (with_reducible assumption) | (with_reducible exact alloc_at _ _) | ((with_reducible apply alloc_at'); (simp; done)) | (with_reducible apply alloc_at_lt) | (with_reducible apply heap_drew_at) | (with_reducible apply heap_drewN_at) | (with_reducible apply heap_setCell_same) | ((with_reducible apply heap_set_ne); (first | omega | (dsimp only; omega) | (simp; done) | (simp; omega))) | (with_reducible apply setRow_at) | ((with_reducible apply setRow_ne); (first | omega | (dsimp only; omega) | (simp; done) | (simp; omega))))))
  have B2 : Below w.heap.size w w2 := Below.trans (by repeat (first | with_reducible assumption | with_reducible exact Below.refl _ _ | with_reducible refine Below.drew ?_ | with_reducible refine below_drewN ?_ _ | with_reducible refine below_alloc ?_ _ | with_reducible refine Below.alloc ?_ (by first | omega | (simp; done) | (simp; omega)) _ | with_reducible refine Below.setCell ?_ (by first | omega | (simp; done) | (simp; omega)) _ | with_reducible refine below_setRow ?_ (by first | omega | (simp; done) | (simp; omega)) _)) (hb2.mono (by first | omega | (simp; done) | (simp; omega)))
  clear hb2 A_1 B_1
  clear Ac0 Ac1 Acf
  clear Bc0 Bc1 Bcf
  have Ac0 : w2.cell? ⟨w.heap.size, 0, none⟩ = some (.int .u64 an) := (blk_cell A_2 0).trans rfl
  have Ac1 : w2.cell? ⟨w.heap.size, 1, none⟩ = some (.int .u64 ad) := (blk_cell A_2 1).trans rfl
  have Acf := blk_free A_2
  have Bc0 : w2.cell? ⟨w.heap.size + 1, 0, none⟩ = some (.int .u64 bn) := (blk_cell B_2 0).trans rfl
  have Bc1 : w2.cell? ⟨w.heap.size + 1, 1, none⟩ = some (.int .u64 bd) := (blk_cell B_2 1).trans rfl
  have Bcf := blk_free B_2
  have Al2 : w.heap.size < w2.heap.size := by omega
  have Bl2 : w.heap.size + 1 < w2.heap.size := by omega
  go_wp2_with fail
  refine (HB.out _).mono ?_
  rintro e w3 ⟨rfl, hb3⟩
  have hs3 := hb3.size
  try simp only [World.size_alloc, World.size_setCell] at hs3
  have A_3 : w3.heap[w.heap.size]? = some (.cells #[.int .u64 an, .int .u64 ad] 24 (0, 0)) := below_at hb3 (by first | omega | (simp; done) | (simp; omega)) (by (repeat (first | (with_reducible assumption) | (with_reducible exact alloc_at _ _) | ((with_reducible apply alloc_at'); (simp; done)) | (with_reducible apply alloc_at_lt) | (with_reducible apply heap_drew_at) | (with_reducible apply heap_drewN_at) | (with_reducible apply heap_setCell_same) | ((with_reducible apply heap_set_ne); (first | omega | (dsimp only; omega) | (simp; done) | (simp; omega))) | (with_reducible apply setRow_at) | ((with_reducible apply setRow_ne); (first | omega | (dsimp only; omega) | (simp; done) | (simp; omega))))))
  have B_3 : w3.heap[w.heap.size + 1]? = some (.cells #[.int .u64 bn, .int .u64 bd] 24 (0, 0)) := below_at hb3 (by first | omega | (simp; done) | (simp; omega)) (by (repeat (first | (with_reducible assumption) | (with_reducible exact alloc_at _ _) | ((with_reducible apply alloc_at'); (simp; done)) | (with_reducible apply alloc_at_lt) | (with_reducible apply heap_drew_at) | (with_reducible apply heap_drewN_at) | (with_reducible apply heap_setCell_same) | ((with_reducible apply heap_set_ne); (first | omega | (dsimp only; omega) | (simp; done) | (simp; omega))) | (with_reducible apply setRow_at) | ((with_reducible apply setRow_ne); (first | omega | (dsimp only; omega) | (simp; done) | (simp; omega))))))
  have S_3 : w3.heap[w2.heap.size]? = some (.cells #[.int .u64 sn, .int .u64 sd] 24 (0, 0)) := below_at hb3 (by first | omega | (simp; done) | (simp; omega)) (by (repeat (first | (with_reducible assumption) | (with_reducible exact alloc_at _ _) | ((with_reducible apply alloc_at'); (simp; done)) | (with_reducible apply alloc_at_lt) | (with_reducible apply heap_drew_at) | (with_reducible apply heap_drewN_at) | (with_reducible apply heap_setCell_same) | ((with_reducible apply heap_set_ne); (first | omega | (dsimp only; omega) | (simp; done) | (simp; omega))) | (with_reducible apply setRow_at) | ((with_reducible apply setRow_ne); (first | omega | (dsimp only; omega) | (simp; done) | (simp; omega))))))
  have B3 : Below w.heap.size w w3 := Below.trans (by repeat (first | with_reducible assumption | with_reducible exact Below.refl _ _ | with_reducible refine Below.drew ?_ | with_reducible refine below_drewN ?_ _ | with_reducible refine below_alloc ?_ _ | with_reducible refine Below.alloc ?_ (by first | omega | (simp; done) | (simp; omega)) _ | with_reducible refine Below.setCell ?_ (by first | omega | (simp; done) | (simp; omega)) _ | with_reducible refine below_setRow ?_ (by first | omega | (simp; done) | (simp; omega)) _)) (hb3.mono (by first | omega | (simp; done) | (simp; omega)))
  clear hb3 A_2 B_2
  clear Ac0 Ac1 Acf
  clear Bc0 Bc1 Bcf
  have Ac0 : w3.cell? ⟨w.heap.size, 0, none⟩ = some (.int .u64 an) := (blk_cell A_3 0).trans rfl
  have Ac1 : w3.cell? ⟨w.heap.size, 1, none⟩ = some (.int .u64 ad) := (blk_cell A_3 1).trans rfl
  have Acf := blk_free A_3
  have Bc0 : w3.cell? ⟨w.heap.size + 1, 0, none⟩ = some (.int .u64 bn) := (blk_cell B_3 0).trans rfl
  have Bc1 : w3.cell? ⟨w.heap.size + 1, 1, none⟩ = some (.int .u64 bd) := (blk_cell B_3 1).trans rfl
  have Bcf := blk_free B_3
  have Sc0 : w3.cell? ⟨w2.heap.size, 0, none⟩ = some (.int .u64 sn) := (blk_cell S_3 0).trans rfl
  have Sc1 : w3.cell? ⟨w2.heap.size, 1, none⟩ = some (.int .u64 sd) := (blk_cell S_3 1).trans rfl
  have Scf := blk_free S_3
  have Al3 : w.heap.size < w3.heap.size := by omega
  have Bl3 : w.heap.size + 1 < w3.heap.size := by omega
  have Sl3 : w2.heap.size < w3.heap.size := by omega
  go_wp2_with fail
  refine (HM.out _).mono ?_
  rintro e w4 ⟨rfl, hb4⟩
  have hs4 := hb4.size
  try simp only [World.size_alloc, World.size_setCell] at hs4
  have A_4 : w4.heap[w.heap.size]? = some (.cells #[.int .u64 an, .int .u64 ad] 24 (0, 0)) := below_at hb4 (by first | omega | (simp; done) | (simp; omega)) (by (repeat (first | (with_reducible assumption) | (with_reducible exact alloc_at _ _) | ((with_reducible apply alloc_at'); (simp; done)) | (with_reducible apply alloc_at_lt) | (with_reducible apply heap_drew_at) | (with_reducible apply heap_drewN_at) | (with_reducible apply heap_setCell_same) | ((with_reducible apply heap_set_ne); (first | omega | (dsimp only; omega) | (simp; done) | (simp; omega))) | (with_reducible apply setRow_at) | ((with_reducible apply setRow_ne); (first | omega | (dsimp only; omega) | (simp; done) | (simp; omega))))))
  have B_4 : w4.heap[w.heap.size + 1]? = some (.cells #[.int .u64 bn, .int .u64 bd] 24 (0, 0)) := below_at hb4 (by first | omega | (simp; done) | (simp; omega)) (by (repeat (first | (with_reducible assumption) | (with_reducible exact alloc_at _ _) | ((with_reducible apply alloc_at'); (simp; done)) | (with_reducible apply alloc_at_lt) | (with_reducible apply heap_drew_at) | (with_reducible apply heap_drewN_at) | (with_reducible apply heap_setCell_same) | ((with_reducible apply heap_set_ne); (first | omega | (dsimp only; omega) | (simp; done) | (simp; omega))) | (with_reducible apply setRow_at) | ((with_reducible apply setRow_ne); (first | omega | (dsimp only; omega) | (simp; done) | (simp; omega))))))
  have S_4 : w4.heap[w2.heap.size]? = some (.cells #[.int .u64 sn, .int .u64 sd] 24 (0, 0)) := below_at hb4 (by first | omega | (simp; done) | (simp; omega)) (by (repeat (first | (with_reducible assumption) | (with_reducible exact alloc_at _ _) | ((with_reducible apply alloc_at'); (simp; done)) | (with_reducible apply alloc_at_lt) | (with_reducible apply heap_drew_at) | (with_reducible apply heap_drewN_at) | (with_reducible apply heap_setCell_same) | ((with_reducible apply heap_set_ne); (first | omega | (dsimp only; omega) | (simp; done) | (simp; omega))) | (with_reducible apply setRow_at) | ((with_reducible apply setRow_ne); (first | omega | (dsimp only; omega) | (simp; done) | (simp; omega))))))
  have T_4 : w4.heap[w3.heap.size]? = some (.cells #[.int .u64 sn, .int .u64 sd] 24 (0, 0)) := below_at hb4 (by first | omega | (simp; done) | (simp; omega)) (by (repeat (first | (with_reducible assumption) | (with_reducible exact alloc_at _ _) | ((with_reducible apply alloc_at'); (simp; done)) | (with_reducible apply alloc_at_lt) | (with_reducible apply heap_drew_at) | (with_reducible apply heap_drewN_at) | (with_reducible apply heap_setCell_same) | ((with_reducible apply heap_set_ne); (first | omega | (dsimp only; omega) | (simp; done) | (simp; omega))) | (with_reducible apply setRow_at) | ((with_reducible apply setRow_ne); (first | omega | (dsimp only; omega) | (simp; done) | (simp; omega))))))
  have B4 : Below w.heap.size w w4 := Below.trans (by repeat (first | with_reducible assumption | with_reducible exact Below.refl _ _ | with_reducible refine Below.drew ?_ | with_reducible refine below_drewN ?_ _ | with_reducible refine below_alloc ?_ _ | with_reducible refine Below.alloc ?_ (by first | omega | (simp; done) | (simp; omega)) _ | with_reducible refine Below.setCell ?_ (by first | omega | (simp; done) | (simp; omega)) _ | with_reducible refine below_setRow ?_ (by first | omega | (simp; done) | (simp; omega)) _)) (hb4.mono (by first | omega | (simp; done) | (simp; omega)))
  clear hb4 A_3 B_3 S_3
  clear Ac0 Ac1 Acf
  clear Bc0 Bc1 Bcf
  clear Sc0 Sc1 Scf
  have Ac0 : w4.cell? ⟨w.heap.size, 0, none⟩ = some (.int .u64 an) := (blk_cell A_4 0).trans rfl
  have Ac1 : w4.cell? ⟨w.heap.size, 1, none⟩ = some (.int .u64 ad) := (blk_cell A_4 1).trans rfl
  have Acf := blk_free A_4
  have Bc0 : w4.cell? ⟨w.heap.size + 1, 0, none⟩ = some (.int .u64 bn) := (blk_cell B_4 0).trans rfl
  have Bc1 : w4.cell? ⟨w.heap.size + 1, 1, none⟩ = some (.int .u64 bd) := (blk_cell B_4 1).trans rfl
  have Bcf := blk_free B_4
  have Sc0 : w4.cell? ⟨w2.heap.size, 0, none⟩ = some (.int .u64 sn) := (blk_cell S_4 0).trans rfl
  have Sc1 : w4.cell? ⟨w2.heap.size, 1, none⟩ = some (.int .u64 sd) := (blk_cell S_4 1).trans rfl
  have Scf := blk_free S_4
  have Tc0 : w4.cell? ⟨w3.heap.size, 0, none⟩ = some (.int .u64 sn) := (blk_cell T_4 0).trans rfl
  have Tc1 : w4.cell? ⟨w3.heap.size, 1, none⟩ = some (.int .u64 sd) := (blk_cell T_4 1).trans rfl
  have Tcf := blk_free T_4
  have Al4 : w.heap.size < w4.heap.size := by omega
  have Bl4 : w.heap.size + 1 < w4.heap.size := by omega
  have Sl4 : w2.heap.size < w4.heap.size := by omega
  have Tl4 : w3.heap.size < w4.heap.size := by omega
  go_wp2_with fail
  refine (HN.out _).mono ?_
  rintro e w5 ⟨rfl, hb5⟩
  have hs5 := hb5.size
  try simp only [World.size_alloc, World.size_setCell] at hs5
  have A_5 : w5.heap[w.heap.size]? = some (.cells #[.int .u64 an, .int .u64 ad] 24 (0, 0)) := below_at hb5 (by first | omega | (simp; done) | (simp; omega)) (by (repeat (first | (with_reducible assumption) | (with_reducible exact alloc_at _ _) | ((with_reducible apply alloc_at'); (simp; done)) | (with_reducible apply alloc_at_lt) | (with_reducible apply heap_drew_at) | (with_reducible apply heap_drewN_at) | (with_reducible apply heap_setCell_same) | ((with_reducible apply heap_set_ne); (first | omega | (dsimp only; omega) | (simp; done) | (simp; omega))) | (with_reducible apply setRow_at) | ((with_reducible apply setRow_ne); (first | omega | (dsimp only; omega) | (simp; done) | (simp; omega))))))
  have B_5 : w5.heap[w.heap.size + 1]? = some (.cells #[.int .u64 bn, .int .u64 bd] 24 (0, 0)) := below_at hb5 (by first | omega | (simp; done) | (simp; omega)) (by (repeat (first | (with_reducible assumption) | (with_reducible exact alloc_at _ _) | ((with_reducible apply alloc_at'); (simp; done)) | (with_reducible apply alloc_at_lt) | (with_reducible apply heap_drew_at) | (with_reducible apply heap_drewN_at) | (with_reducible apply heap_setCell_same) | ((with_reducible apply heap_set_ne); (first | omega | (dsimp only; omega) | (simp; done) | (simp; omega))) | (with_reducible apply setRow_at) | ((with_reducible apply setRow_ne); (first | omega | (dsimp only; omega) | (simp; done) | (simp; omega))))))
  have S_5 : w5.heap[w2.heap.size]? = some (.cells #[.int .u64 sn, .int .u64 sd] 24 (0, 0)) := below_at hb5 (by first | omega | (simp; done) | (simp; omega)) (by (repeat (first | (with_reducible assumption) | (with_reducible exact alloc_at _ _) | ((with_reducible apply alloc_at'); (simp; done)) | (with_reducible apply alloc_at_lt) | (with_reducible apply heap_drew_at) | (with_reducible apply heap_drewN_at) | (with_reducible apply heap_setCell_same) | ((with_reducible apply heap_set_ne); (first | omega | (dsimp only; omega) | (simp; done) | (simp; omega))) | (with_reducible apply setRow_at) | ((with_reducible apply setRow_ne); (first | omega | (dsimp only; omega) | (simp; done) | (simp; omega))))))
  have T_5 : w5.heap[w3.heap.size]? = some (.cells #[.int .u64 sn, .int .u64 sd] 24 (0, 0)) := below_at hb5 (by first | omega | (simp; done) | (simp; omega)) (by (repeat (first | (with_reducible assumption) | (with_reducible exact alloc_at _ _) | ((with_reducible apply alloc_at'); (simp; done)) | (with_reducible apply alloc_at_lt) | (with_reducible apply heap_drew_at) | (with_reducible apply heap_drewN_at) | (with_reducible apply heap_setCell_same) | ((with_reducible apply heap_set_ne); (first | omega | (dsimp only; omega) | (simp; done) | (simp; omega))) | (with_reducible apply setRow_at) | ((with_reducible apply setRow_ne); (first | omega | (dsimp only; omega) | (simp; done) | (simp; omega))))))
  have P_5 : w5.heap[w4.heap.size]? = some (.cells #[.int .u64 pn, .int .u64 pd] 24 (0, 0)) := below_at hb5 (by first | omega | (simp; done) | (simp; omega)) (by (repeat (first | (with_reducible assumption) | (with_reducible exact alloc_at _ _) | ((with_reducible apply alloc_at'); (simp; done)) | (with_reducible apply alloc_at_lt) | (with_reducible apply heap_drew_at) | (with_reducible apply heap_drewN_at) | (with_reducible apply heap_setCell_same) | ((with_reducible apply heap_set_ne); (first | omega | (dsimp only; omega) | (simp; done) | (simp; omega))) | (with_reducible apply setRow_at) | ((with_reducible apply setRow_ne); (first | omega | (dsimp only; omega) | (simp; done) | (simp; omega))))))
  have B5 : Below w.heap.size w w5 := Below.trans (by repeat (first | with_reducible assumption | with_reducible exact Below.refl _ _ | with_reducible refine Below.drew ?_ | with_reducible refine below_drewN ?_ _ | with_reducible refine below_alloc ?_ _ | with_reducible refine Below.alloc ?_ (by first | omega | (simp; done) | (simp; omega)) _ | with_reducible refine Below.setCell ?_ (by first | omega | (simp; done) | (simp; omega)) _ | with_reducible refine below_setRow ?_ (by first | omega | (simp; done) | (simp; omega)) _)) (hb5.mono (by first | omega | (simp; done) | (simp; omega)))
  clear hb5 A_4 B_4 S_4 T_4
  clear Ac0 Ac1 Acf
  clear Bc0 Bc1 Bcf
  clear Sc0 Sc1 Scf
  clear Tc0 Tc1 Tcf
  have Ac0 : w5.cell? ⟨w.heap.size, 0, none⟩ = some (.int .u64 an) := (blk_cell A_5 0).trans rfl
  have Ac1 : w5.cell? ⟨w.heap.size, 1, none⟩ = some (.int .u64 ad) := (blk_cell A_5 1).trans rfl
  have Acf := blk_free A_5
  have Bc0 : w5.cell? ⟨w.heap.size + 1, 0, none⟩ = some (.int .u64 bn) := (blk_cell B_5 0).trans rfl
  have Bc1 : w5.cell? ⟨w.heap.size + 1, 1, none⟩ = some (.int .u64 bd) := (blk_cell B_5 1).trans rfl
  have Bcf := blk_free B_5
  have Sc0 : w5.cell? ⟨w2.heap.size, 0, none⟩ = some (.int .u64 sn) := (blk_cell S_5 0).trans rfl
  have Sc1 : w5.cell? ⟨w2.heap.size, 1, none⟩ = some (.int .u64 sd) := (blk_cell S_5 1).trans rfl
  have Scf := blk_free S_5
  have Tc0 : w5.cell? ⟨w3.heap.size, 0, none⟩ = some (.int .u64 sn) := (blk_cell T_5 0).trans rfl
  have Tc1 : w5.cell? ⟨w3.heap.size, 1, none⟩ = some (.int .u64 sd) := (blk_cell T_5 1).trans rfl
  have Tcf := blk_free T_5
  have Pc0 : w5.cell? ⟨w4.heap.size, 0, none⟩ = some (.int .u64 pn) := (blk_cell P_5 0).trans rfl
  have Pc1 : w5.cell? ⟨w4.heap.size, 1, none⟩ = some (.int .u64 pd) := (blk_cell P_5 1).trans rfl
  have Pcf := blk_free P_5
  have Al5 : w.heap.size < w5.heap.size := by omega
  have Bl5 : w.heap.size + 1 < w5.heap.size := by omega
  have Sl5 : w2.heap.size < w5.heap.size := by omega
  have Tl5 : w3.heap.size < w5.heap.size := by omega
  have Pl5 : w4.heap.size < w5.heap.size := by omega
  go_wp2_with fail
  refine (HS.out _).mono ?_
  rintro e w6 ⟨rfl, hb6⟩
  have hs6 := hb6.size
  try simp only [World.size_alloc, World.size_setCell] at hs6
  have A_6 : w6.heap[w.heap.size]? = some (.cells #[.int .u64 an, .int .u64 ad] 24 (0, 0)) := below_at hb6 (by first | omega | (simp; done) | (simp; omega)) (by (repeat (first | (with_reducible assumption) | (with_reducible exact alloc_at _ _) | ((with_reducible apply alloc_at'); (simp; done)) | (with_reducible apply alloc_at_lt) | (with_reducible apply heap_drew_at) | (with_reducible apply heap_drewN_at) | (with_reducible apply heap_setCell_same) | ((with_reducible apply heap_set_ne); (first | omega | (dsimp only; omega) | (simp; done) | (simp; omega))) | (with_reducible apply setRow_at) | ((with_reducible apply setRow_ne); (first | omega | (dsimp only; omega) | (simp; done) | (simp; omega))))))
  have B_6 : w6.heap[w.heap.size + 1]? = some (.cells #[.int .u64 bn, .int .u64 bd] 24 (0, 0)) := below_at hb6 (by first | omega | (simp; done) | (simp; omega)) (by (repeat (first | (with_reducible assumption) | (with_reducible exact alloc_at _ _) | ((with_reducible apply alloc_at'); (simp; done)) | (with_reducible apply alloc_at_lt) | (with_reducible apply heap_drew_at) | (with_reducible apply heap_drewN_at) | (with_reducible apply heap_setCell_same) | ((with_reducible apply heap_set_ne); (first | omega | (dsimp only; omega) | (simp; done) | (simp; omega))) | (with_reducible apply setRow_at) | ((with_reducible apply setRow_ne); (first | omega | (dsimp only; omega) | (simp; done) | (simp; omega))))))
  have S_6 : w6.heap[w2.heap.size]? = some (.cells #[.int .u64 sn, .int .u64 sd] 24 (0, 0)) := below_at hb6 (by first | omega | (simp; done) | (simp; omega)) (by (repeat (first | (with_reducible assumption) | (with_reducible exact alloc_at _ _) | ((with_reducible apply alloc_at'); (simp; done)) | (with_reducible apply alloc_at_lt) | (with_reducible apply heap_drew_at) | (with_reducible apply heap_drewN_at) | (with_reducible apply heap_setCell_same) | ((with_reducible apply heap_set_ne); (first | omega | (dsimp only; omega) | (simp; done) | (simp; omega))) | (with_reducible apply setRow_at) | ((with_reducible apply setRow_ne); (first | omega | (dsimp only; omega) | (simp; done) | (simp; omega))))))
  have T_6 : w6.heap[w3.heap.size]? = some (.cells #[.int .u64 sn, .int .u64 sd] 24 (0, 0)) := below_at hb6 (by first | omega | (simp; done) | (simp; omega)) (by (repeat (first | (with_reducible assumption) | (with_reducible exact alloc_at _ _) | ((with_reducible apply alloc_at'); (simp; done)) | (with_reducible apply alloc_at_lt) | (with_reducible apply heap_drew_at) | (with_reducible apply heap_drewN_at) | (with_reducible apply heap_setCell_same) | ((with_reducible apply heap_set_ne); (first | omega | (dsimp only; omega) | (simp; done) | (simp; omega))) | (with_reducible apply setRow_at) | ((with_reducible apply setRow_ne); (first | omega | (dsimp only; omega) | (simp; done) | (simp; omega))))))
  have P_6 : w6.heap[w4.heap.size]? = some (.cells #[.int .u64 pn, .int .u64 pd] 24 (0, 0)) := below_at hb6 (by first | omega | (simp; done) | (simp; omega)) (by (repeat (first | (with_reducible assumption) | (with_reducible exact alloc_at _ _) | ((with_reducible apply alloc_at'); (simp; done)) | (with_reducible apply alloc_at_lt) | (with_reducible apply heap_drew_at) | (with_reducible apply heap_drewN_at) | (with_reducible apply heap_setCell_same) | ((with_reducible apply heap_set_ne); (first | omega | (dsimp only; omega) | (simp; done) | (simp; omega))) | (with_reducible apply setRow_at) | ((with_reducible apply setRow_ne); (first | omega | (dsimp only; omega) | (simp; done) | (simp; omega))))))
  have Q_6 : w6.heap[w5.heap.size]? = some (.cells #[.int .u64 pn, .int .u64 pd] 24 (0, 0)) := below_at hb6 (by first | omega | (simp; done) | (simp; omega)) (by (repeat (first | (with_reducible assumption) | (with_reducible exact alloc_at _ _) | ((with_reducible apply alloc_at'); (simp; done)) | (with_reducible apply alloc_at_lt) | (with_reducible apply heap_drew_at) | (with_reducible apply heap_drewN_at) | (with_reducible apply heap_setCell_same) | ((with_reducible apply heap_set_ne); (first | omega | (dsimp only; omega) | (simp; done) | (simp; omega))) | (with_reducible apply setRow_at) | ((with_reducible apply setRow_ne); (first | omega | (dsimp only; omega) | (simp; done) | (simp; omega))))))
  have B6 : Below w.heap.size w w6 := Below.trans (by repeat (first | with_reducible assumption | with_reducible exact Below.refl _ _ | with_reducible refine Below.drew ?_ | with_reducible refine below_drewN ?_ _ | with_reducible refine below_alloc ?_ _ | with_reducible refine Below.alloc ?_ (by first | omega | (simp; done) | (simp; omega)) _ | with_reducible refine Below.setCell ?_ (by first | omega | (simp; done) | (simp; omega)) _ | with_reducible refine below_setRow ?_ (by first | omega | (simp; done) | (simp; omega)) _)) (hb6.mono (by first | omega | (simp; done) | (simp; omega)))
  clear hb6 A_5 B_5 S_5 T_5 P_5
  clear Ac0 Ac1 Acf
  clear Bc0 Bc1 Bcf
  clear Sc0 Sc1 Scf
  clear Tc0 Tc1 Tcf
  clear Pc0 Pc1 Pcf
  have Ac0 : w6.cell? ⟨w.heap.size, 0, none⟩ = some (.int .u64 an) := (blk_cell A_6 0).trans rfl
  have Ac1 : w6.cell? ⟨w.heap.size, 1, none⟩ = some (.int .u64 ad) := (blk_cell A_6 1).trans rfl
  have Acf := blk_free A_6
  have Bc0 : w6.cell? ⟨w.heap.size + 1, 0, none⟩ = some (.int .u64 bn) := (blk_cell B_6 0).trans rfl
  have Bc1 : w6.cell? ⟨w.heap.size + 1, 1, none⟩ = some (.int .u64 bd) := (blk_cell B_6 1).trans rfl
  have Bcf := blk_free B_6
  have Sc0 : w6.cell? ⟨w2.heap.size, 0, none⟩ = some (.int .u64 sn) := (blk_cell S_6 0).trans rfl
  have Sc1 : w6.cell? ⟨w2.heap.size, 1, none⟩ = some (.int .u64 sd) := (blk_cell S_6 1).trans rfl
  have Scf := blk_free S_6
  have Tc0 : w6.cell? ⟨w3.heap.size, 0, none⟩ = some (.int .u64 sn) := (blk_cell T_6 0).trans rfl
  have Tc1 : w6.cell? ⟨w3.heap.size, 1, none⟩ = some (.int .u64 sd) := (blk_cell T_6 1).trans rfl
  have Tcf := blk_free T_6
  have Pc0 : w6.cell? ⟨w4.heap.size, 0, none⟩ = some (.int .u64 pn) := (blk_cell P_6 0).trans rfl
  have Pc1 : w6.cell? ⟨w4.heap.size, 1, none⟩ = some (.int .u64 pd) := (blk_cell P_6 1).trans rfl
  have Pcf := blk_free P_6
  have Qc0 : w6.cell? ⟨w5.heap.size, 0, none⟩ = some (.int .u64 pn) := (blk_cell Q_6 0).trans rfl
  have Qc1 : w6.cell? ⟨w5.heap.size, 1, none⟩ = some (.int .u64 pd) := (blk_cell Q_6 1).trans rfl
  have Qcf := blk_free Q_6
  have Al6 : w.heap.size < w6.heap.size := by omega
  have Bl6 : w.heap.size + 1 < w6.heap.size := by omega
  have Sl6 : w2.heap.size < w6.heap.size := by omega
  have Tl6 : w3.heap.size < w6.heap.size := by omega
  have Pl6 : w4.heap.size < w6.heap.size := by omega
  have Ql6 : w5.heap.size < w6.heap.size := by omega
  go_wp2_with fail
  refine (HC.out _).mono ?_
  rintro e w7 ⟨rfl, hb7⟩
  have hs7 := hb7.size
  try simp only [World.size_alloc, World.size_setCell] at hs7
  have A_7 : w7.heap[w.heap.size]? = some (.cells #[.int .u64 an, .int .u64 ad] 24 (0, 0)) := below_at hb7 (by first | omega | (simp; done) | (simp; omega)) (by (repeat (first | (with_reducible assumption) | (with_reducible exact alloc_at _ _) | ((with_reducible apply alloc_at'); (simp; done)) | (with_reducible apply alloc_at_lt) | (with_reducible apply heap_drew_at) | (with_reducible apply heap_drewN_at) | (with_reducible apply heap_setCell_same) | ((with_reducible apply heap_set_ne); (first | omega | (dsimp only; omega) | (simp; done) | (simp; omega))) | (with_reducible apply setRow_at) | ((with_reducible apply setRow_ne); (first | omega | (dsimp only; omega) | (simp; done) | (simp; omega))))))
  have B_7 : w7.heap[w.heap.size + 1]? = some (.cells #[.int .u64 bn, .int .u64 bd] 24 (0, 0)) := below_at hb7 (by first | omega | (simp; done) | (simp; omega)) (by (repeat (first | (with_reducible assumption) | (with_reducible exact alloc_at _ _) | ((with_reducible apply alloc_at'); (simp; done)) | (with_reducible apply alloc_at_lt) | (with_reducible apply heap_drew_at) | (with_reducible apply heap_drewN_at) | (with_reducible apply heap_setCell_same) | ((with_reducible apply heap_set_ne); (first | omega | (dsimp only; omega) | (simp; done) | (simp; omega))) | (with_reducible apply setRow_at) | ((with_reducible apply setRow_ne); (first | omega | (dsimp only; omega) | (simp; done) | (simp; omega))))))
  have S_7 : w7.heap[w2.heap.size]? = some (.cells #[.int .u64 sn, .int .u64 sd] 24 (0, 0)) := below_at hb7 (by first | omega | (simp; done) | (simp; omega)) (by (repeat (first | (with_reducible assumption) | (with_reducible exact alloc_at _ _) | ((with_reducible apply alloc_at'); (simp; done)) | (with_reducible apply alloc_at_lt) | (with_reducible apply heap_drew_at) | (with_reducible apply heap_drewN_at) | (with_reducible apply heap_setCell_same) | ((with_reducible apply heap_set_ne); (first | omega | (dsimp only; omega) | (simp; done) | (simp; omega))) | (with_reducible apply setRow_at) | ((with_reducible apply setRow_ne); (first | omega | (dsimp only; omega) | (simp; done) | (simp; omega))))))
  have T_7 : w7.heap[w3.heap.size]? = some (.cells #[.int .u64 sn, .int .u64 sd] 24 (0, 0)) := below_at hb7 (by first | omega | (simp; done) | (simp; omega)) (by (repeat (first | (with_reducible assumption) | (with_reducible exact alloc_at _ _) | ((with_reducible apply alloc_at'); (simp; done)) | (with_reducible apply alloc_at_lt) | (with_reducible apply heap_drew_at) | (with_reducible apply heap_drewN_at) | (with_reducible apply heap_setCell_same) | ((with_reducible apply heap_set_ne); (first | omega | (dsimp only; omega) | (simp; done) | (simp; omega))) | (with_reducible apply setRow_at) | ((with_reducible apply setRow_ne); (first | omega | (dsimp only; omega) | (simp; done) | (simp; omega))))))
  have P_7 : w7.heap[w4.heap.size]? = some (.cells #[.int .u64 pn, .int .u64 pd] 24 (0, 0)) := below_at hb7 (by first | omega | (simp; done) | (simp; omega)) (by (repeat (first | (with_reducible assumption) | (with_reducible exact alloc_at _ _) | ((with_reducible apply alloc_at'); (simp; done)) | (with_reducible apply alloc_at_lt) | (with_reducible apply heap_drew_at) | (with_reducible apply heap_drewN_at) | (with_reducible apply heap_setCell_same) | ((with_reducible apply heap_set_ne); (first | omega | (dsimp only; omega) | (simp; done) | (simp; omega))) | (with_reducible apply setRow_at) | ((with_reducible apply setRow_ne); (first | omega | (dsimp only; omega) | (simp; done) | (simp; omega))))))
  have Q_7 : w7.heap[w5.heap.size]? = some (.cells #[.int .u64 pn, .int .u64 pd] 24 (0, 0)) := below_at hb7 (by first | omega | (simp; done) | (simp; omega)) (by (repeat (first | (with_reducible assumption) | (with_reducible exact alloc_at _ _) | ((with_reducible apply alloc_at'); (simp; done)) | (with_reducible apply alloc_at_lt) | (with_reducible apply heap_drew_at) | (with_reducible apply heap_drewN_at) | (with_reducible apply heap_setCell_same) | ((with_reducible apply heap_set_ne); (first | omega | (dsimp only; omega) | (simp; done) | (simp; omega))) | (with_reducible apply setRow_at) | ((with_reducible apply setRow_ne); (first | omega | (dsimp only; omega) | (simp; done) | (simp; omega))))))
  have D_7 : w7.heap[w6.heap.size]? = some (.cells #[.int .u64 r, .int .u64 t] 24 (0, 0)) := below_at hb7 (by first | omega | (simp; done) | (simp; omega)) (by (repeat (first | (with_reducible assumption) | (with_reducible exact alloc_at _ _) | ((with_reducible apply alloc_at'); (simp; done)) | (with_reducible apply alloc_at_lt) | (with_reducible apply heap_drew_at) | (with_reducible apply heap_drewN_at) | (with_reducible apply heap_setCell_same) | ((with_reducible apply heap_set_ne); (first | omega | (dsimp only; omega) | (simp; done) | (simp; omega))) | (with_reducible apply setRow_at) | ((with_reducible apply setRow_ne); (first | omega | (dsimp only; omega) | (simp; done) | (simp; omega))))))
  have B7 : Below w.heap.size w w7 := Below.trans (by repeat (first | with_reducible assumption | with_reducible exact Below.refl _ _ | with_reducible refine Below.drew ?_ | with_reducible refine below_drewN ?_ _ | with_reducible refine below_alloc ?_ _ | with_reducible refine Below.alloc ?_ (by first | omega | (simp; done) | (simp; omega)) _ | with_reducible refine Below.setCell ?_ (by first | omega | (simp; done) | (simp; omega)) _ | with_reducible refine below_setRow ?_ (by first | omega | (simp; done) | (simp; omega)) _)) (hb7.mono (by first | omega | (simp; done) | (simp; omega)))
  clear hb7 A_6 B_6 S_6 T_6 P_6 Q_6
  clear Ac0 Ac1 Acf
  clear Bc0 Bc1 Bcf
  clear Sc0 Sc1 Scf
  clear Tc0 Tc1 Tcf
  clear Pc0 Pc1 Pcf
  clear Qc0 Qc1 Qcf
  have Ac0 : w7.cell? ⟨w.heap.size, 0, none⟩ = some (.int .u64 an) := (blk_cell A_7 0).trans rfl
  have Ac1 : w7.cell? ⟨w.heap.size, 1, none⟩ = some (.int .u64 ad) := (blk_cell A_7 1).trans rfl
  have Acf := blk_free A_7
  have Bc0 : w7.cell? ⟨w.heap.size + 1, 0, none⟩ = some (.int .u64 bn) := (blk_cell B_7 0).trans rfl
  have Bc1 : w7.cell? ⟨w.heap.size + 1, 1, none⟩ = some (.int .u64 bd) := (blk_cell B_7 1).trans rfl
  have Bcf := blk_free B_7
  have Sc0 : w7.cell? ⟨w2.heap.size, 0, none⟩ = some (.int .u64 sn) := (blk_cell S_7 0).trans rfl
  have Sc1 : w7.cell? ⟨w2.heap.size, 1, none⟩ = some (.int .u64 sd) := (blk_cell S_7 1).trans rfl
  have Scf := blk_free S_7
  have Tc0 : w7.cell? ⟨w3.heap.size, 0, none⟩ = some (.int .u64 sn) := (blk_cell T_7 0).trans rfl
  have Tc1 : w7.cell? ⟨w3.heap.size, 1, none⟩ = some (.int .u64 sd) := (blk_cell T_7 1).trans rfl
  have Tcf := blk_free T_7
  have Pc0 : w7.cell? ⟨w4.heap.size, 0, none⟩ = some (.int .u64 pn) := (blk_cell P_7 0).trans rfl
  have Pc1 : w7.cell? ⟨w4.heap.size, 1, none⟩ = some (.int .u64 pd) := (blk_cell P_7 1).trans rfl
  have Pcf := blk_free P_7
  have Qc0 : w7.cell? ⟨w5.heap.size, 0, none⟩ = some (.int .u64 pn) := (blk_cell Q_7 0).trans rfl
  have Qc1 : w7.cell? ⟨w5.heap.size, 1, none⟩ = some (.int .u64 pd) := (blk_cell Q_7 1).trans rfl
  have Qcf := blk_free Q_7
  have Dc0 : w7.cell? ⟨w6.heap.size, 0, none⟩ = some (.int .u64 r) := (blk_cell D_7 0).trans rfl
  have Dc1 : w7.cell? ⟨w6.heap.size, 1, none⟩ = some (.int .u64 t) := (blk_cell D_7 1).trans rfl
  have Dcf := blk_free D_7
  have Al7 : w.heap.size < w7.heap.size := by omega
  have Bl7 : w.heap.size + 1 < w7.heap.size := by omega
  have Sl7 : w2.heap.size < w7.heap.size := by omega
  have Tl7 : w3.heap.size < w7.heap.size := by omega
  have Pl7 : w4.heap.size < w7.heap.size := by omega
  have Ql7 : w5.heap.size < w7.heap.size := by omega
  have Dl7 : w6.heap.size < w7.heap.size := by omega
  go_wp2
  go_ret
  exact ⟨by first | rfl | simp, (by repeat (first | with_reducible assumption | with_reducible exact Below.refl _ _ | with_reducible refine Below.drew ?_ | with_reducible refine below_drewN ?_ _ | with_reducible refine below_alloc ?_ _ | with_reducible refine Below.alloc ?_ (by first | omega | (simp; done) | (simp; omega)) _ | with_reducible refine Below.setCell ?_ (by first | omega | (simp; done) | (simp; omega)) _ | with_reducible refine below_setRow ?_ (by first | omega | (simp; done) | (simp; omega)) _))⟩
theorem ratioBack_any (an ad bn bd : Int) (w : World) (an0 : 0 ≤ an) (an1 : an ≤ 18446744073709551615) (ad0 : 0 ≤ ad) (ad1 : ad ≤ 18446744073709551615) (bn0 : 0 ≤ bn) (bn1 : bn ≤ 18446744073709551615) (bd0 : 0 ≤ bd) (bd1 : bd ≤ 18446744073709551615) :
    Calls Try.prog 7 #[.agg #[.int .u64 an, .int .u64 ad], .agg #[.int .u64 bn, .int .u64 bd]] w fun e w' => e = .returned (.bool true) ∧ Below w.heap.size w w' := by
  obtain ⟨⟨⟨sn, sd⟩, se⟩, hs⟩ : ∃ z, addF an ad bn bd = z := ⟨_, rfl⟩
  obtain ⟨⟨⟨pn, pd⟩, pe⟩, hp⟩ : ∃ z, mulF an ad bn bd = z := ⟨_, rfl⟩
  have ha : ∀ W, Calls Try.prog 15 #[.agg #[.int .u64 an, .int .u64 ad], .agg #[.int .u64 bn, .int .u64 bd]] W fun e w' => e = .returned (.tuple #[.agg #[.int .u64 sn, .int .u64 sd], .int .i64 se]) ∧ Below W.heap.size W w' := fun W => by
    have h := addF_any an ad bn bd W an0 an1 ad0 ad1 bn0 bn1 bd0 bd1; rw [hs] at h; exact h
  have HA := hid ha
  have hb : ∀ W, Calls Try.prog 15 #[.agg #[.int .u64 bn, .int .u64 bd], .agg #[.int .u64 an, .int .u64 ad]] W fun e w' => e = .returned (.tuple #[.agg #[.int .u64 sn, .int .u64 sd], .int .i64 se]) ∧ Below W.heap.size W w' := fun W => by
    have h := addF_any bn bd an ad W bn0 bn1 bd0 bd1 an0 an1 ad0 ad1; rw [addF_comm, hs] at h; exact h
  have HB := hid hb
  have hm : ∀ W, Calls Try.prog 16 #[.agg #[.int .u64 an, .int .u64 ad], .agg #[.int .u64 bn, .int .u64 bd]] W fun e w' => e = .returned (.tuple #[.agg #[.int .u64 pn, .int .u64 pd], .int .i64 pe]) ∧ Below W.heap.size W w' := fun W => by
    have h := mulF_any an ad bn bd W an0 an1 ad0 ad1 bn0 bn1 bd0 bd1; rw [hp] at h; exact h
  have HM := hid hm
  have hn : ∀ W, Calls Try.prog 16 #[.agg #[.int .u64 bn, .int .u64 bd], .agg #[.int .u64 an, .int .u64 ad]] W fun e w' => e = .returned (.tuple #[.agg #[.int .u64 pn, .int .u64 pd], .int .i64 pe]) ∧ Below W.heap.size W w' := fun W => by
    have h := mulF_any bn bd an ad W bn0 bn1 bd0 bd1 an0 an1 ad0 ad1; rw [mulF_comm, hp] at h; exact h
  have HN := hid hn
  have herr := addF_err an ad bn bd
  rw [hs] at herr
  simp only at herr
  rcases herr with h | h | h
  · subst h
    obtain ⟨-, -, s0, s1, s2, s3, -, -⟩ := addF_ok an0 ad0 bn0 bd0 hs
    have hsub := fun W => subF_any sn sd bn bd W s0 s1 (by omega) s3 bn0 bn1 bd0 bd1
    rcases back_law an0 ad0 bn0 bd0 hs with h | ⟨r, t, h, r0, r1, t0, t1, hc⟩
    · rw [h] at hsub
      have hcmp := fun W => cmpR_any 0 0 an ad W (by omega) (by omega) (by omega) (by omega) an0 an1 ad0 ad1
      exact back_o an ad bn bd sn sd pn pd pe 0 0 _ _ w (hid hsub) (hid hcmp) HA HB HM HN
    · rw [h] at hsub
      have hcmp := fun W => cmpR_any r t an ad W r0 r1 t0 t1 an0 an1 ad0 ad1
      rw [hc] at hcmp
      exact back_k an ad bn bd sn sd pn pd pe r t w (hid hsub) (hid hcmp) HA HB HM HN
  · subst h
    exact back_4 an ad bn bd sn sd pn pd pe w HA HB HM HN
  · subst h
    exact back_7 an ad bn bd sn sd pn pd pe w HA HB HM HN
end Go.Proofs.Ytbkopmgfkokmgaa
