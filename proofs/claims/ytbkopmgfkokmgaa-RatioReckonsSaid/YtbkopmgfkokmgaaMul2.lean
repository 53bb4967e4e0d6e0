/- The walks of the program's Add, Sub and Mul. Asked: what each step comes to. -/
import Derived.Test.YtbkopmgfkokmgaaSum1
import Derived.Deep.DeepCutAuto
namespace Go.Proofs.Ytbkopmgfkokmgaa
open Go.RowKit
set_option maxRecDepth 100000 in
set_option maxHeartbeats 4000000 in
theorem add_z1 (an ad bn bd  : Int) (w : World) (hq : (ad == 0) = true) :
    Calls Try.prog 15 #[.agg #[.int .u64 an, .int .u64 ad], .agg #[.int .u64 bn, .int .u64 bd]] w fun e w' => e = .returned (.tuple #[.agg #[.int .u64 0, .int .u64 0], .int .i64 4]) ∧ Below w.heap.size w w' := by
  go_enter Try.func15, Try.ntmps15
  go_wp2
  refine ret_row2 rfl (w.heap.size + 1 + 1) #[.int .u64 0, .int .u64 0] 24 _ rfl Try.underlying24 rfl infoR rfl (by apply Exists.intro; refine ⟨?_, ?_⟩; (focus ((repeat (first | (with_reducible assumption) | (with_reducible exact alloc_at _ _) | ((with_reducible apply alloc_at'); (simp; done)) | (with_reducible apply alloc_at_lt) | (with_reducible apply heap_drew_at) | (with_reducible apply heap_drewN_at) | (with_reducible apply heap_setCell_same) | ((with_reducible apply heap_set_ne); (first | omega | (dsimp only; omega) | (simp; done) | (simp; omega))) | (with_reducible apply setRow_at) | ((with_reducible apply setRow_ne); (first | omega | (dsimp only; omega) | (simp; done) | (simp; omega))))))); simp) ⟨rfl, (by repeat (first | with_reducible assumption | with_reducible exact Below.refl _ _ | with_reducible refine Below.drew ?_ | with_reducible refine below_drewN ?_ _ | with_reducible refine below_alloc ?_ _ | with_reducible refine Below.alloc ?_ (by first | omega | (simp; done) | (simp; omega)) _ | with_reducible refine Below.setCell ?_ (by first | omega | (simp; done) | (simp; omega)) _ | with_reducible refine below_setRow ?_ (by first | omega | (simp; done) | (simp; omega)) _))⟩
set_option maxRecDepth 100000 in
set_option maxHeartbeats 4000000 in
theorem add_z2 (an ad bn bd  : Int) (w : World) (hp : (ad == 0) = false) (hq : (bd == 0) = true) :
    Calls Try.prog 15 #[.agg #[.int .u64 an, .int .u64 ad], .agg #[.int .u64 bn, .int .u64 bd]] w fun e w' => e = .returned (.tuple #[.agg #[.int .u64 0, .int .u64 0], .int .i64 4]) ∧ Below w.heap.size w w' := by
  go_enter Try.func15, Try.ntmps15
  go_wp2
  refine ret_row2 rfl (w.heap.size + 1 + 1) #[.int .u64 0, .int .u64 0] 24 _ rfl Try.underlying24 rfl infoR rfl (by apply Exists.intro; refine ⟨?_, ?_⟩; (focus ((repeat (first | (with_reducible assumption) | (with_reducible exact alloc_at _ _) | ((with_reducible apply alloc_at'); (simp; done)) | (with_reducible apply alloc_at_lt) | (with_reducible apply heap_drew_at) | (with_reducible apply heap_drewN_at) | (with_reducible apply heap_setCell_same) | ((with_reducible apply heap_set_ne); (first | omega | (dsimp only; omega) | (simp; done) | (simp; omega))) | (with_reducible apply setRow_at) | ((with_reducible apply setRow_ne); (first | omega | (dsimp only; omega) | (simp; done) | (simp; omega))))))); simp) ⟨rfl, (by repeat (first | with_reducible assumption | with_reducible exact Below.refl _ _ | with_reducible refine Below.drew ?_ | with_reducible refine below_drewN ?_ _ | with_reducible refine below_alloc ?_ _ | with_reducible refine Below.alloc ?_ (by first | omega | (simp; done) | (simp; omega)) _ | with_reducible refine Below.setCell ?_ (by first | omega | (simp; done) | (simp; omega)) _ | with_reducible refine below_setRow ?_ (by first | omega | (simp; done) | (simp; omega)) _))⟩
set_option maxRecDepth 100000 in
set_option maxHeartbeats 4000000 in
theorem mul_z1 (an ad bn bd  : Int) (w : World) (hq : (ad == 0) = true) :
    Calls Try.prog 16 #[.agg #[.int .u64 an, .int .u64 ad], .agg #[.int .u64 bn, .int .u64 bd]] w fun e w' => e = .returned (.tuple #[.agg #[.int .u64 0, .int .u64 0], .int .i64 4]) ∧ Below w.heap.size w w' := by
  go_enter Try.func16, Try.ntmps16
  go_wp2
  refine ret_row2 rfl (w.heap.size + 1 + 1) #[.int .u64 0, .int .u64 0] 24 _ rfl Try.underlying24 rfl infoR rfl (by apply Exists.intro; refine ⟨?_, ?_⟩; (focus ((repeat (first | (with_reducible assumption) | (with_reducible exact alloc_at _ _) | ((with_reducible apply alloc_at'); (simp; done)) | (with_reducible apply alloc_at_lt) | (with_reducible apply heap_drew_at) | (with_reducible apply heap_drewN_at) | (with_reducible apply heap_setCell_same) | ((with_reducible apply heap_set_ne); (first | omega | (dsimp only; omega) | (simp; done) | (simp; omega))) | (with_reducible apply setRow_at) | ((with_reducible apply setRow_ne); (first | omega | (dsimp only; omega) | (simp; done) | (simp; omega))))))); simp) ⟨rfl, (by repeat (first | with_reducible assumption | with_reducible exact Below.refl _ _ | with_reducible refine Below.drew ?_ | with_reducible refine below_drewN ?_ _ | with_reducible refine below_alloc ?_ _ | with_reducible refine Below.alloc ?_ (by first | omega | (simp; done) | (simp; omega)) _ | with_reducible refine Below.setCell ?_ (by first | omega | (simp; done) | (simp; omega)) _ | with_reducible refine below_setRow ?_ (by first | omega | (simp; done) | (simp; omega)) _))⟩
set_option maxRecDepth 100000 in
set_option maxHeartbeats 4000000 in
theorem mul_z2 (an ad bn bd  : Int) (w : World) (hp : (ad == 0) = false) (hq : (bd == 0) = true) :
    Calls Try.prog 16 #[.agg #[.int .u64 an, .int .u64 ad], .agg #[.int .u64 bn, .int .u64 bd]] w fun e w' => e = .returned (.tuple #[.agg #[.int .u64 0, .int .u64 0], .int .i64 4]) ∧ Below w.heap.size w w' := by
  go_enter Try.func16, Try.ntmps16
  go_wp2
  refine ret_row2 rfl (w.heap.size + 1 + 1) #[.int .u64 0, .int .u64 0] 24 _ rfl Try.underlying24 rfl infoR rfl (by apply Exists.intro; refine ⟨?_, ?_⟩; (focus ((repeat (first | (with_reducible assumption) | (with_reducible exact alloc_at _ _) | ((with_reducible apply alloc_at'); (simp; done)) | (with_reducible apply alloc_at_lt) | (with_reducible apply heap_drew_at) | (with_reducible apply heap_drewN_at) | (with_reducible apply heap_setCell_same) | ((with_reducible apply heap_set_ne); (first | omega | (dsimp only; omega) | (simp; done) | (simp; omega))) | (with_reducible apply setRow_at) | ((with_reducible apply setRow_ne); (first | omega | (dsimp only; omega) | (simp; done) | (simp; omega))))))); simp) ⟨rfl, (by repeat (first | with_reducible assumption | with_reducible exact Below.refl _ _ | with_reducible refine Below.drew ?_ | with_reducible refine below_drewN ?_ _ | with_reducible refine below_alloc ?_ _ | with_reducible refine Below.alloc ?_ (by first | omega | (simp; done) | (simp; omega)) _ | with_reducible refine Below.setCell ?_ (by first | omega | (simp; done) | (simp; omega)) _ | with_reducible refine below_setRow ?_ (by first | omega | (simp; done) | (simp; omega)) _))⟩
set_option maxRecDepth 100000 in
set_option maxHeartbeats 4000000 in
theorem add_w (an ad bn bd r0 r1 er : Int) (w : World) (hp : (ad == 0) = false) (hq : (bd == 0) = false) (HS : Hid (∀ W, Calls Try.prog 28 #[.agg #[.int .u64 an, .int .u64 ad], .agg #[.int .u64 bn, .int .u64 bd], .bool false] W fun e w' => e = .returned (.tuple #[.agg #[.int .u64 r0, .int .u64 r1], .int .i64 er]) ∧ Below W.heap.size W w')) :
    Calls Try.prog 15 #[.agg #[.int .u64 an, .int .u64 ad], .agg #[.int .u64 bn, .int .u64 bd]] w fun e w' => e = .returned (.tuple #[.agg #[.int .u64 r0, .int .u64 r1], .int .i64 er]) ∧ Below w.heap.size w w' := by
  go_enter Try.func15, Try.ntmps15
  go_wp2_with fail
  refine (HS.out _).mono ?_
  rintro e w1 ⟨rfl, hb1⟩
  have hs1 := hb1.size
  try simp only [World.size_alloc, World.size_setCell] at hs1
  have A_1 : w1.heap[w.heap.size]? = some (.cells #[.int .u64 an, .int .u64 ad] 24 (0, 0)) := below_at hb1 (by first | omega | (simp; done) | (simp; omega)) (by (repeat (first | (with_reducible assumption) | (with_reducible exact alloc_at _ _) | ((with_reducible apply alloc_at'); (simp; done)) | (with_reducible apply alloc_at_lt) | (with_reducible apply heap_drew_at) | (with_reducible apply heap_drewN_at) | (with_reducible apply heap_setCell_same) | ((with_reducible apply heap_set_ne); (first | omega | (dsimp only; omega) | (simp; done) | (simp; omega))) | (with_reducible apply setRow_at) | ((with_reducible apply setRow_ne); (first | omega | (dsimp only; omega) | (simp; done) | (simp; omega))))))
  have B_1 : w1.heap[w.heap.size + 1]? = some (.cells #[.int .u64 bn, .int .u64 bd] 24 (0, 0)) := below_at hb1 (by first | omega | (simp; done) | (simp; omega)) (by (repeat (first | (with_reducible assumption) | (with_reducible exact alloc_at _ _) | ((with_reducible apply alloc_at'); (simp; done)) | (with_reducible apply alloc_at_lt) | (with_reducible apply heap_drew_at) | (with_reducible apply heap_drewN_at) | (with_reducible apply heap_setCell_same) | ((with_reducible apply heap_set_ne); (first | omega | (dsimp only; omega) | (simp; done) | (simp; omega))) | (with_reducible apply setRow_at) | ((with_reducible apply setRow_ne); (first | omega | (dsimp only; omega) | (simp; done) | (simp; omega))))))
  have R_1 : w1.heap[w.heap.size + 1 + 1]? = some (.cells #[.int .u64 0, .int .u64 0] 24 (0, 0)) := below_at hb1 (by first | omega | (simp; done) | (simp; omega)) (by (repeat (first | (with_reducible assumption) | (with_reducible exact alloc_at _ _) | ((with_reducible apply alloc_at'); (simp; done)) | (with_reducible apply alloc_at_lt) | (with_reducible apply heap_drew_at) | (with_reducible apply heap_drewN_at) | (with_reducible apply heap_setCell_same) | ((with_reducible apply heap_set_ne); (first | omega | (dsimp only; omega) | (simp; done) | (simp; omega))) | (with_reducible apply setRow_at) | ((with_reducible apply setRow_ne); (first | omega | (dsimp only; omega) | (simp; done) | (simp; omega))))))
  have B1 : Below w.heap.size w w1 := Below.trans (by repeat (first | with_reducible assumption | with_reducible exact Below.refl _ _ | with_reducible refine Below.drew ?_ | with_reducible refine below_drewN ?_ _ | with_reducible refine below_alloc ?_ _ | with_reducible refine Below.alloc ?_ (by first | omega | (simp; done) | (simp; omega)) _ | with_reducible refine Below.setCell ?_ (by first | omega | (simp; done) | (simp; omega)) _ | with_reducible refine below_setRow ?_ (by first | omega | (simp; done) | (simp; omega)) _)) (hb1.mono (by first | omega | (simp; done) | (simp; omega)))
  clear hb1
  have Ac0 : w1.cell? ⟨w.heap.size, 0, none⟩ = some (.int .u64 an) := (blk_cell A_1 0).trans rfl
  have Ac1 : w1.cell? ⟨w.heap.size, 1, none⟩ = some (.int .u64 ad) := (blk_cell A_1 1).trans rfl
  have Acf := blk_free A_1
  have Bc0 : w1.cell? ⟨w.heap.size + 1, 0, none⟩ = some (.int .u64 bn) := (blk_cell B_1 0).trans rfl
  have Bc1 : w1.cell? ⟨w.heap.size + 1, 1, none⟩ = some (.int .u64 bd) := (blk_cell B_1 1).trans rfl
  have Bcf := blk_free B_1
  have Rc0 : w1.cell? ⟨w.heap.size + 1 + 1, 0, none⟩ = some (.int .u64 0) := (blk_cell R_1 0).trans rfl
  have Rc1 : w1.cell? ⟨w.heap.size + 1 + 1, 1, none⟩ = some (.int .u64 0) := (blk_cell R_1 1).trans rfl
  have Rcf := blk_free R_1
  have Al1 : w.heap.size < w1.heap.size := by omega
  have Bl1 : w.heap.size + 1 < w1.heap.size := by omega
  have Rl1 : w.heap.size + 1 + 1 < w1.heap.size := by omega
  go_wp2
  refine ret_row2 rfl (w.heap.size + 1 + 1) #[.int .u64 r0, .int .u64 r1] 24 _ rfl Try.underlying24 rfl infoR rfl (by apply Exists.intro; refine ⟨?_, ?_⟩; (focus ((repeat (first | (with_reducible assumption) | (with_reducible exact alloc_at _ _) | ((with_reducible apply alloc_at'); (simp; done)) | (with_reducible apply alloc_at_lt) | (with_reducible apply heap_drew_at) | (with_reducible apply heap_drewN_at) | (with_reducible apply heap_setCell_same) | ((with_reducible apply heap_set_ne); (first | omega | (dsimp only; omega) | (simp; done) | (simp; omega))) | (with_reducible apply setRow_at) | ((with_reducible apply setRow_ne); (first | omega | (dsimp only; omega) | (simp; done) | (simp; omega))))))); simp) ⟨rfl, (by repeat (first | with_reducible assumption | with_reducible exact Below.refl _ _ | with_reducible refine Below.drew ?_ | with_reducible refine below_drewN ?_ _ | with_reducible refine below_alloc ?_ _ | with_reducible refine Below.alloc ?_ (by first | omega | (simp; done) | (simp; omega)) _ | with_reducible refine Below.setCell ?_ (by first | omega | (simp; done) | (simp; omega)) _ | with_reducible refine below_setRow ?_ (by first | omega | (simp; done) | (simp; omega)) _))⟩
set_option maxRecDepth 100000 in
set_option maxHeartbeats 4000000 in
theorem sub_e (an ad bn bd c er : Int) (w : World) (hq : (er != 0) = true) (HC : Hid (∀ W, Calls Try.prog 11 #[.agg #[.int .u64 an, .int .u64 ad], .agg #[.int .u64 bn, .int .u64 bd]] W fun e w' => e = .returned (.tuple #[.int .i64 c, .int .i64 er]) ∧ Below W.heap.size W w')) :
    Calls Try.prog 18 #[.agg #[.int .u64 an, .int .u64 ad], .agg #[.int .u64 bn, .int .u64 bd]] w fun e w' => e = .returned (.tuple #[.agg #[.int .u64 0, .int .u64 0], .int .i64 er]) ∧ Below w.heap.size w w' := by
  go_enter Try.func18, Try.ntmps18
  go_wp2_with fail
  refine (HC.out _).mono ?_
  rintro e w1 ⟨rfl, hb1⟩
  have hs1 := hb1.size
  try simp only [World.size_alloc, World.size_setCell] at hs1
  have A_1 : w1.heap[w.heap.size]? = some (.cells #[.int .u64 an, .int .u64 ad] 24 (0, 0)) := below_at hb1 (by first | omega | (simp; done) | (simp; omega)) (by (repeat (first | (with_reducible assumption) | (with_reducible exact alloc_at _ _) | ((with_reducible apply alloc_at'); (simp; done)) | (with_reducible apply alloc_at_lt) | (with_reducible apply heap_drew_at) | (with_reducible apply heap_drewN_at) | (with_reducible apply heap_setCell_same) | ((with_reducible apply heap_set_ne); (first | omega | (dsimp only; omega) | (simp; done) | (simp; omega))) | (with_reducible apply setRow_at) | ((with_reducible apply setRow_ne); (first | omega | (dsimp only; omega) | (simp; done) | (simp; omega))))))
  have B_1 : w1.heap[w.heap.size + 1]? = some (.cells #[.int .u64 bn, .int .u64 bd] 24 (0, 0)) := below_at hb1 (by first | omega | (simp; done) | (simp; omega)) (by (repeat (first | (with_reducible assumption) | (with_reducible exact alloc_at _ _) | ((with_reducible apply alloc_at'); (simp; done)) | (with_reducible apply alloc_at_lt) | (with_reducible apply heap_drew_at) | (with_reducible apply heap_drewN_at) | (with_reducible apply heap_setCell_same) | ((with_reducible apply heap_set_ne); (first | omega | (dsimp only; omega) | (simp; done) | (simp; omega))) | (with_reducible apply setRow_at) | ((with_reducible apply setRow_ne); (first | omega | (dsimp only; omega) | (simp; done) | (simp; omega))))))
  have R_1 : w1.heap[w.heap.size + 1 + 1]? = some (.cells #[.int .u64 0, .int .u64 0] 24 (0, 0)) := below_at hb1 (by first | omega | (simp; done) | (simp; omega)) (by (repeat (first | (with_reducible assumption) | (with_reducible exact alloc_at _ _) | ((with_reducible apply alloc_at'); (simp; done)) | (with_reducible apply alloc_at_lt) | (with_reducible apply heap_drew_at) | (with_reducible apply heap_drewN_at) | (with_reducible apply heap_setCell_same) | ((with_reducible apply heap_set_ne); (first | omega | (dsimp only; omega) | (simp; done) | (simp; omega))) | (with_reducible apply setRow_at) | ((with_reducible apply setRow_ne); (first | omega | (dsimp only; omega) | (simp; done) | (simp; omega))))))
  have B1 : Below w.heap.size w w1 := Below.trans (by repeat (first | with_reducible assumption | with_reducible exact Below.refl _ _ | with_reducible refine Below.drew ?_ | with_reducible refine below_drewN ?_ _ | with_reducible refine below_alloc ?_ _ | with_reducible refine Below.alloc ?_ (by first | omega | (simp; done) | (simp; omega)) _ | with_reducible refine Below.setCell ?_ (by first | omega | (simp; done) | (simp; omega)) _ | with_reducible refine below_setRow ?_ (by first | omega | (simp; done) | (simp; omega)) _)) (hb1.mono (by first | omega | (simp; done) | (simp; omega)))
  clear hb1
  have Ac0 : w1.cell? ⟨w.heap.size, 0, none⟩ = some (.int .u64 an) := (blk_cell A_1 0).trans rfl
  have Ac1 : w1.cell? ⟨w.heap.size, 1, none⟩ = some (.int .u64 ad) := (blk_cell A_1 1).trans rfl
  have Acf := blk_free A_1
  have Bc0 : w1.cell? ⟨w.heap.size + 1, 0, none⟩ = some (.int .u64 bn) := (blk_cell B_1 0).trans rfl
  have Bc1 : w1.cell? ⟨w.heap.size + 1, 1, none⟩ = some (.int .u64 bd) := (blk_cell B_1 1).trans rfl
  have Bcf := blk_free B_1
  have Rc0 : w1.cell? ⟨w.heap.size + 1 + 1, 0, none⟩ = some (.int .u64 0) := (blk_cell R_1 0).trans rfl
  have Rc1 : w1.cell? ⟨w.heap.size + 1 + 1, 1, none⟩ = some (.int .u64 0) := (blk_cell R_1 1).trans rfl
  have Rcf := blk_free R_1
  have Al1 : w.heap.size < w1.heap.size := by omega
  have Bl1 : w.heap.size + 1 < w1.heap.size := by omega
  have Rl1 : w.heap.size + 1 + 1 < w1.heap.size := by omega
  go_wp2
  refine ret_row2 rfl (w.heap.size + 1 + 1) #[.int .u64 0, .int .u64 0] 24 _ rfl Try.underlying24 rfl infoR rfl (by apply Exists.intro; refine ⟨?_, ?_⟩; (focus ((repeat (first | (with_reducible assumption) | (with_reducible exact alloc_at _ _) | ((with_reducible apply alloc_at'); (simp; done)) | (with_reducible apply alloc_at_lt) | (with_reducible apply heap_drew_at) | (with_reducible apply heap_drewN_at) | (with_reducible apply heap_setCell_same) | ((with_reducible apply heap_set_ne); (first | omega | (dsimp only; omega) | (simp; done) | (simp; omega))) | (with_reducible apply setRow_at) | ((with_reducible apply setRow_ne); (first | omega | (dsimp only; omega) | (simp; done) | (simp; omega))))))); simp) ⟨rfl, (by repeat (first | with_reducible assumption | with_reducible exact Below.refl _ _ | with_reducible refine Below.drew ?_ | with_reducible refine below_drewN ?_ _ | with_reducible refine below_alloc ?_ _ | with_reducible refine Below.alloc ?_ (by first | omega | (simp; done) | (simp; omega)) _ | with_reducible refine Below.setCell ?_ (by first | omega | (simp; done) | (simp; omega)) _ | with_reducible refine below_setRow ?_ (by first | omega | (simp; done) | (simp; omega)) _))⟩
set_option maxRecDepth 100000 in
set_option maxHeartbeats 4000000 in
theorem sub_n (an ad bn bd c : Int) (w : World) (hq : c < 0) (HC : Hid (∀ W, Calls Try.prog 11 #[.agg #[.int .u64 an, .int .u64 ad], .agg #[.int .u64 bn, .int .u64 bd]] W fun e w' => e = .returned (.tuple #[.int .i64 c, .int .i64 0]) ∧ Below W.heap.size W w')) :
    Calls Try.prog 18 #[.agg #[.int .u64 an, .int .u64 ad], .agg #[.int .u64 bn, .int .u64 bd]] w fun e w' => e = .returned (.tuple #[.agg #[.int .u64 0, .int .u64 0], .int .i64 2]) ∧ Below w.heap.size w w' := by
  go_enter Try.func18, Try.ntmps18
  go_wp2_with fail
  refine (HC.out _).mono ?_
  rintro e w1 ⟨rfl, hb1⟩
  have hs1 := hb1.size
  try simp only [World.size_alloc, World.size_setCell] at hs1
  have A_1 : w1.heap[w.heap.size]? = some (.cells #[.int .u64 an, .int .u64 ad] 24 (0, 0)) := below_at hb1 (by first | omega | (simp; done) | (simp; omega)) (by (repeat (first | (with_reducible assumption) | (with_reducible exact alloc_at _ _) | ((with_reducible apply alloc_at'); (simp; done)) | (with_reducible apply alloc_at_lt) | (with_reducible apply heap_drew_at) | (with_reducible apply heap_drewN_at) | (with_reducible apply heap_setCell_same) | ((with_reducible apply heap_set_ne); (first | omega | (dsimp only; omega) | (simp; done) | (simp; omega))) | (with_reducible apply setRow_at) | ((with_reducible apply setRow_ne); (first | omega | (dsimp only; omega) | (simp; done) | (simp; omega))))))
  have B_1 : w1.heap[w.heap.size + 1]? = some (.cells #[.int .u64 bn, .int .u64 bd] 24 (0, 0)) := below_at hb1 (by first | omega | (simp; done) | (simp; omega)) (by (repeat (first | (with_reducible assumption) | (with_reducible exact alloc_at _ _) | ((with_reducible apply alloc_at'); (simp; done)) | (with_reducible apply alloc_at_lt) | (with_reducible apply heap_drew_at) | (with_reducible apply heap_drewN_at) | (with_reducible apply heap_setCell_same) | ((with_reducible apply heap_set_ne); (first | omega | (dsimp only; omega) | (simp; done) | (simp; omega))) | (with_reducible apply setRow_at) | ((with_reducible apply setRow_ne); (first | omega | (dsimp only; omega) | (simp; done) | (simp; omega))))))
  have R_1 : w1.heap[w.heap.size + 1 + 1]? = some (.cells #[.int .u64 0, .int .u64 0] 24 (0, 0)) := below_at hb1 (by first | omega | (simp; done) | (simp; omega)) (by (repeat (first | (with_reducible assumption) | (with_reducible exact alloc_at _ _) | ((with_reducible apply alloc_at'); (simp; done)) | (with_reducible apply alloc_at_lt) | (with_reducible apply heap_drew_at) | (with_reducible apply heap_drewN_at) | (with_reducible apply heap_setCell_same) | ((with_reducible apply heap_set_ne); (first | omega | (dsimp only; omega) | (simp; done) | (simp; omega))) | (with_reducible apply setRow_at) | ((with_reducible apply setRow_ne); (first | omega | (dsimp only; omega) | (simp; done) | (simp; omega))))))
  have B1 : Below w.heap.size w w1 := Below.trans (by repeat (first | with_reducible assumption | with_reducible exact Below.refl _ _ | with_reducible refine Below.drew ?_ | with_reducible refine below_drewN ?_ _ | with_reducible refine below_alloc ?_ _ | with_reducible refine Below.alloc ?_ (by first | omega | (simp; done) | (simp; omega)) _ | with_reducible refine Below.setCell ?_ (by first | omega | (simp; done) | (simp; omega)) _ | with_reducible refine below_setRow ?_ (by first | omega | (simp; done) | (simp; omega)) _)) (hb1.mono (by first | omega | (simp; done) | (simp; omega)))
  clear hb1
  have Ac0 : w1.cell? ⟨w.heap.size, 0, none⟩ = some (.int .u64 an) := (blk_cell A_1 0).trans rfl
  have Ac1 : w1.cell? ⟨w.heap.size, 1, none⟩ = some (.int .u64 ad) := (blk_cell A_1 1).trans rfl
  have Acf := blk_free A_1
  have Bc0 : w1.cell? ⟨w.heap.size + 1, 0, none⟩ = some (.int .u64 bn) := (blk_cell B_1 0).trans rfl
  have Bc1 : w1.cell? ⟨w.heap.size + 1, 1, none⟩ = some (.int .u64 bd) := (blk_cell B_1 1).trans rfl
  have Bcf := blk_free B_1
  have Rc0 : w1.cell? ⟨w.heap.size + 1 + 1, 0, none⟩ = some (.int .u64 0) := (blk_cell R_1 0).trans rfl
  have Rc1 : w1.cell? ⟨w.heap.size + 1 + 1, 1, none⟩ = some (.int .u64 0) := (blk_cell R_1 1).trans rfl
  have Rcf := blk_free R_1
  have Al1 : w.heap.size < w1.heap.size := by omega
  have Bl1 : w.heap.size + 1 < w1.heap.size := by omega
  have Rl1 : w.heap.size + 1 + 1 < w1.heap.size := by omega
  go_wp2
  refine ret_row2 rfl (w.heap.size + 1 + 1) #[.int .u64 0, .int .u64 0] 24 _ rfl Try.underlying24 rfl infoR rfl (by apply Exists.intro; refine ⟨?_, ?_⟩; (focus ((repeat (first | (with_reducible assumption) | (with_reducible exact alloc_at _ _) | ((with_reducible apply alloc_at'); (simp; done)) | (with_reducible apply alloc_at_lt) | (with_reducible apply heap_drew_at) | (with_reducible apply heap_drewN_at) | (with_reducible apply heap_setCell_same) | ((with_reducible apply heap_set_ne); (first | omega | (dsimp only; omega) | (simp; done) | (simp; omega))) | (with_reducible apply setRow_at) | ((with_reducible apply setRow_ne); (first | omega | (dsimp only; omega) | (simp; done) | (simp; omega))))))); simp) ⟨rfl, (by repeat (first | with_reducible assumption | with_reducible exact Below.refl _ _ | with_reducible refine Below.drew ?_ | with_reducible refine below_drewN ?_ _ | with_reducible refine below_alloc ?_ _ | with_reducible refine Below.alloc ?_ (by first | omega | (simp; done) | (simp; omega)) _ | with_reducible refine Below.setCell ?_ (by first | omega | (simp; done) | (simp; omega)) _ | with_reducible refine below_setRow ?_ (by first | omega | (simp; done) | (simp; omega)) _))⟩
set_option maxRecDepth 100000 in
set_option maxHeartbeats 4000000 in
theorem sub_w (an ad bn bd c r0 r1 er : Int) (w : World) (hq : 0 ≤ c) (HC : Hid (∀ W, Calls Try.prog 11 #[.agg #[.int .u64 an, .int .u64 ad], .agg #[.int .u64 bn, .int .u64 bd]] W fun e w' => e = .returned (.tuple #[.int .i64 c, .int .i64 0]) ∧ Below W.heap.size W w')) (HS : Hid (∀ W, Calls Try.prog 28 #[.agg #[.int .u64 an, .int .u64 ad], .agg #[.int .u64 bn, .int .u64 bd], .bool true] W fun e w' => e = .returned (.tuple #[.agg #[.int .u64 r0, .int .u64 r1], .int .i64 er]) ∧ Below W.heap.size W w')) :
    Calls Try.prog 18 #[.agg #[.int .u64 an, .int .u64 ad], .agg #[.int .u64 bn, .int .u64 bd]] w fun e w' => e = .returned (.tuple #[.agg #[.int .u64 r0, .int .u64 r1], .int .i64 er]) ∧ Below w.heap.size w w' := by
  go_enter Try.func18, Try.ntmps18
  go_wp2_with fail
  refine (HC.out _).mono ?_
  rintro e w1 ⟨rfl, hb1⟩
  have hs1 := hb1.size
  try simp only [World.size_alloc, World.size_setCell] at hs1
  have A_1 : w1.heap[w.heap.size]? = some (.cells #[.int .u64 an, .int .u64 ad] 24 (0, 0)) := below_at hb1 (by first | omega | (simp; done) | (simp; omega)) (by (repeat (first | (with_reducible assumption) | (with_reducible exact alloc_at _ _) | ((with_reducible apply alloc_at'); (simp; done)) | (with_reducible apply alloc_at_lt) | (with_reducible apply heap_drew_at) | (with_reducible apply heap_drewN_at) | (with_reducible apply heap_setCell_same) | ((with_reducible apply heap_set_ne); (first | omega | (dsimp only; omega) | (simp; done) | (simp; omega))) | (with_reducible apply setRow_at) | ((with_reducible apply setRow_ne); (first | omega | (dsimp only; omega) | (simp; done) | (simp; omega))))))
  have B_1 : w1.heap[w.heap.size + 1]? = some (.cells #[.int .u64 bn, .int .u64 bd] 24 (0, 0)) := below_at hb1 (by first | omega | (simp; done) | (simp; omega)) (by (repeat (first | (with_reducible assumption) | (with_reducible exact alloc_at _ _) | ((with_reducible apply alloc_at'); (simp; done)) | (with_reducible apply alloc_at_lt) | (with_reducible apply heap_drew_at) | (with_reducible apply heap_drewN_at) | (with_reducible apply heap_setCell_same) | ((with_reducible apply heap_set_ne); (first | omega | (dsimp only; omega) | (simp; done) | (simp; omega))) | (with_reducible apply setRow_at) | ((with_reducible apply setRow_ne); (first | omega | (dsimp only; omega) | (simp; done) | (simp; omega))))))
  have R_1 : w1.heap[w.heap.size + 1 + 1]? = some (.cells #[.int .u64 0, .int .u64 0] 24 (0, 0)) := below_at hb1 (by first | omega | (simp; done) | (simp; omega)) (by (repeat (first | (with_reducible assumption) | (with_reducible exact alloc_at _ _) | ((with_reducible apply alloc_at'); (simp; done)) | (with_reducible apply alloc_at_lt) | (with_reducible apply heap_drew_at) | (with_reducible apply heap_drewN_at) | (with_reducible apply heap_setCell_same) | ((with_reducible apply heap_set_ne); (first | omega | (dsimp only; omega) | (simp; done) | (simp; omega))) | (with_reducible apply setRow_at) | ((with_reducible apply setRow_ne); (first | omega | (dsimp only; omega) | (simp; done) | (simp; omega))))))
  have B1 : Below w.heap.size w w1 := Below.trans (by repeat (first | with_reducible assumption | with_reducible exact Below.refl _ _ | with_reducible refine Below.drew ?_ | with_reducible refine below_drewN ?_ _ | with_reducible refine below_alloc ?_ _ | with_reducible refine Below.alloc ?_ (by first | omega | (simp; done) | (simp; omega)) _ | with_reducible refine Below.setCell ?_ (by first | omega | (simp; done) | (simp; omega)) _ | with_reducible refine below_setRow ?_ (by first | omega | (simp; done) | (simp; omega)) _)) (hb1.mono (by first | omega | (simp; done) | (simp; omega)))
  clear hb1
  have Ac0 : w1.cell? ⟨w.heap.size, 0, none⟩ = some (.int .u64 an) := (blk_cell A_1 0).trans rfl
  have Ac1 : w1.cell? ⟨w.heap.size, 1, none⟩ = some (.int .u64 ad) := (blk_cell A_1 1).trans rfl
  have Acf := blk_free A_1
  have Bc0 : w1.cell? ⟨w.heap.size + 1, 0, none⟩ = some (.int .u64 bn) := (blk_cell B_1 0).trans rfl
  have Bc1 : w1.cell? ⟨w.heap.size + 1, 1, none⟩ = some (.int .u64 bd) := (blk_cell B_1 1).trans rfl
  have Bcf := blk_free B_1
  have Rc0 : w1.cell? ⟨w.heap.size + 1 + 1, 0, none⟩ = some (.int .u64 0) := (blk_cell R_1 0).trans rfl
  have Rc1 : w1.cell? ⟨w.heap.size + 1 + 1, 1, none⟩ = some (.int .u64 0) := (blk_cell R_1 1).trans rfl
  have Rcf := blk_free R_1
  have Al1 : w.heap.size < w1.heap.size := by omega
  have Bl1 : w.heap.size + 1 < w1.heap.size := by omega
  have Rl1 : w.heap.size + 1 + 1 < w1.heap.size := by omega
  go_wp2_with fail
  refine (HS.out _).mono ?_
  rintro e w2 ⟨rfl, hb2⟩
  have hs2 := hb2.size
  try simp only [World.size_alloc, World.size_setCell] at hs2
  have A_2 : w2.heap[w.heap.size]? = some (.cells #[.int .u64 an, .int .u64 ad] 24 (0, 0)) := below_at hb2 (by first | omega | (simp; done) | (simp; omega)) (by (repeat (first | (with_reducible assumption) | (with_reducible exact alloc_at _ _) | ((with_reducible apply alloc_at'); (simp; done)) | (with_reducible apply alloc_at_lt) | (with_reducible apply heap_drew_at) | (with_reducible apply heap_drewN_at) | (with_reducible apply heap_setCell_same) | ((with_reducible apply heap_set_ne); (first | omega | (dsimp only; omega) | (simp; done) | (simp; omega))) | (with_reducible apply setRow_at) | ((with_reducible apply setRow_ne); (first | omega | (dsimp only; omega) | (simp; done) | (simp; omega))))))
  have B_2 : w2.heap[w.heap.size + 1]? = some (.cells #[.int .u64 bn, .int .u64 bd] 24 (0, 0)) := below_at hb2 (by first | omega | (simp; done) | (simp; omega)) (by (repeat (first | (with_reducible assumption) | (with_reducible exact alloc_at _ _) | ((with_reducible apply alloc_at'); (simp; done)) | (with_reducible apply alloc_at_lt) | (with_reducible apply heap_drew_at) | (with_reducible apply heap_drewN_at) | (with_reducible apply heap_setCell_same) | ((with_reducible apply heap_set_ne); (first | omega | (dsimp only; omega) | (simp; done) | (simp; omega))) | (with_reducible apply setRow_at) | ((with_reducible apply setRow_ne); (first | omega | (dsimp only; omega) | (simp; done) | (simp; omega))))))
  have R_2 : w2.heap[w.heap.size + 1 + 1]? = some (.cells #[.int .u64 0, .int .u64 0] 24 (0, 0)) := below_at hb2 (by first | omega | (simp; done) | (simp; omega)) (by (repeat (first | (with_reducible assumption) | (with_reducible exact alloc_at _ _) | ((with_reducible apply alloc_at'); (simp; done)) | (with_reducible apply alloc_at_lt) | (with_reducible apply heap_drew_at) | (with_reducible apply heap_drewN_at) | (with_reducible apply heap_setCell_same) | ((with_reducible apply heap_set_ne); (first | omega | (dsimp only; omega) | (simp; done) | (simp; omega))) | (with_reducible apply setRow_at) | ((with_reducible apply setRow_ne); (first | omega | (dsimp only; omega) | (simp; done) | (simp; omega))))))
  have B2 : Below w.heap.size w w2 := Below.trans (by repeat (first | with_reducible assumption | with_reducible exact Below.refl _ _ | with_reducible refine Below.drew ?_ | with_reducible refine below_drewN ?_ _ | with_reducible refine below_alloc ?_ _ | with_reducible refine Below.alloc ?_ (by first | omega | (simp; done) | (simp; omega)) _ | with_reducible refine Below.setCell ?_ (by first | omega | (simp; done) | (simp; omega)) _ | with_reducible refine below_setRow ?_ (by first | omega | (simp; done) | (simp; omega)) _)) (hb2.mono (by first | omega | (simp; done) | (simp; omega)))
  clear hb2 A_1 B_1 R_1
  clear Ac0 Ac1 Acf
  clear Bc0 Bc1 Bcf
  clear Rc0 Rc1 Rcf
  have Ac0 : w2.cell? ⟨w.heap.size, 0, none⟩ = some (.int .u64 an) := (blk_cell A_2 0).trans rfl
  have Ac1 : w2.cell? ⟨w.heap.size, 1, none⟩ = some (.int .u64 ad) := (blk_cell A_2 1).trans rfl
  have Acf := blk_free A_2
  have Bc0 : w2.cell? ⟨w.heap.size + 1, 0, none⟩ = some (.int .u64 bn) := (blk_cell B_2 0).trans rfl
  have Bc1 : w2.cell? ⟨w.heap.size + 1, 1, none⟩ = some (.int .u64 bd) := (blk_cell B_2 1).trans rfl
  have Bcf := blk_free B_2
  have Rc0 : w2.cell? ⟨w.heap.size + 1 + 1, 0, none⟩ = some (.int .u64 0) := (blk_cell R_2 0).trans rfl
  have Rc1 : w2.cell? ⟨w.heap.size + 1 + 1, 1, none⟩ = some (.int .u64 0) := (blk_cell R_2 1).trans rfl
  have Rcf := blk_free R_2
  have Al2 : w.heap.size < w2.heap.size := by omega
  have Bl2 : w.heap.size + 1 < w2.heap.size := by omega
  have Rl2 : w.heap.size + 1 + 1 < w2.heap.size := by omega
  go_wp2
  refine ret_row2 rfl (w.heap.size + 1 + 1) #[.int .u64 r0, .int .u64 r1] 24 _ rfl Try.underlying24 rfl infoR rfl (by apply Exists.intro; refine ⟨?_, ?_⟩; (focus ((repeat (first | (with_reducible assumption) | (with_reducible exact alloc_at _ _) | ((with_reducible apply alloc_at'); (simp; done)) | (with_reducible apply alloc_at_lt) | (with_reducible apply heap_drew_at) | (with_reducible apply heap_drewN_at) | (with_reducible apply heap_setCell_same) | ((with_reducible apply heap_set_ne); (first | omega | (dsimp only; omega) | (simp; done) | (simp; omega))) | (with_reducible apply setRow_at) | ((with_reducible apply setRow_ne); (first | omega | (dsimp only; omega) | (simp; done) | (simp; omega))))))); simp) ⟨rfl, (by repeat (first | with_reducible assumption | with_reducible exact Below.refl _ _ | with_reducible refine Below.drew ?_ | with_reducible refine below_drewN ?_ _ | with_reducible refine below_alloc ?_ _ | with_reducible refine Below.alloc ?_ (by first | omega | (simp; done) | (simp; omega)) _ | with_reducible refine Below.setCell ?_ (by first | omega | (simp; done) | (simp; omega)) _ | with_reducible refine below_setRow ?_ (by first | omega | (simp; done) | (simp; omega)) _))⟩
set_option maxRecDepth 100000 in
set_option maxHeartbeats 4000000 in
theorem mul_o1 (an ad bn bd x y z t p q r s h n l d : Int) (w : World) (ho : (h != 0) = true) (hp : (ad == 0) = false) (hq : (bd == 0) = false) (H1 : Hid (∀ W, Calls Try.prog 21 #[.int .u64 an, .int .u64 ad] W fun e w' => e = .returned (.agg #[.int .u64 x, .int .u64 y]) ∧ Below W.heap.size W w')) (H2 : Hid (∀ W, Calls Try.prog 21 #[.int .u64 bn, .int .u64 bd] W fun e w' => e = .returned (.agg #[.int .u64 z, .int .u64 t]) ∧ Below W.heap.size W w'))
    (H3 : Hid (∀ W, Calls Try.prog 21 #[.int .u64 x, .int .u64 t] W fun e w' => e = .returned (.agg #[.int .u64 p, .int .u64 q]) ∧ Below W.heap.size W w')) (H4 : Hid (∀ W, Calls Try.prog 21 #[.int .u64 z, .int .u64 y] W fun e w' => e = .returned (.agg #[.int .u64 r, .int .u64 s]) ∧ Below W.heap.size W w')) (M1 : Hid (∀ W, Calls Try.prog 22 #[.int .u64 p, .int .u64 r] W fun e w' => e = .returned (.tuple #[.int .u64 h, .int .u64 n]) ∧ Below W.heap.size W w')) (M2 : Hid (∀ W, Calls Try.prog 22 #[.int .u64 q, .int .u64 s] W fun e w' => e = .returned (.tuple #[.int .u64 l, .int .u64 d]) ∧ Below W.heap.size W w')) :
    Calls Try.prog 16 #[.agg #[.int .u64 an, .int .u64 ad], .agg #[.int .u64 bn, .int .u64 bd]] w fun e w' => e = .returned (.tuple #[.agg #[.int .u64 0, .int .u64 0], .int .i64 7]) ∧ Below w.heap.size w w' := by
  go_enter Try.func16, Try.ntmps16
  go_wp2_with fail
  obtain ⟨w1, hw1⟩ : ∃ wx_ : World, wx_ = ((w.alloc (.cells #[.int .u64 an, .int .u64 ad] 24)).alloc (.cells #[.int .u64 bn, .int .u64 bd] 24)).alloc (.cells #[.int .u64 0, .int .u64 0] 24) := ⟨_, rfl⟩
  rw [← hw1]
  have B1 : Below w.heap.size w w1 := by rw [hw1]; exact (by repeat (first | with_reducible assumption | with_reducible exact Below.refl _ _ | with_reducible refine Below.drew ?_ | with_reducible refine below_drewN ?_ _ | with_reducible refine below_alloc ?_ _ | with_reducible refine Below.alloc ?_ (by first | omega | (simp; done) | (simp; omega)) _ | with_reducible refine Below.setCell ?_ (by first | omega | (simp; done) | (simp; omega)) _ | with_reducible refine below_setRow ?_ (by first | omega | (simp; done) | (simp; omega)) _))
  have A_1 : w1.heap[w.heap.size]? = some (.cells #[.int .u64 an, .int .u64 ad] 24 (0, 0)) := by rw [hw1]; exact at_of (by apply Exists.intro; refine ⟨?_, ?_⟩; (focus ((repeat (first | (with_reducible assumption) | (with_reducible exact alloc_at _ _) | ((with_reducible apply alloc_at'); (simp; done)) | (with_reducible apply alloc_at_lt) | (with_reducible apply heap_drew_at) | (with_reducible apply heap_drewN_at) | (with_reducible apply heap_setCell_same) | ((with_reducible apply heap_set_ne); (first | omega | (dsimp only; omega) | (simp; done) | (simp; omega))) | (with_reducible apply setRow_at) | ((with_reducible apply setRow_ne); (first | omega | (dsimp only; omega) | (simp; done) | (simp; omega))))))); simp)
  have B_1 : w1.heap[w.heap.size + 1]? = some (.cells #[.int .u64 bn, .int .u64 bd] 24 (0, 0)) := by rw [hw1]; exact at_of (by apply Exists.intro; refine ⟨?_, ?_⟩; (focus ((repeat (first | (with_reducible assumption) | (with_reducible exact alloc_at _ _) | ((with_reducible apply alloc_at'); (simp; done)) | (with_reducible apply alloc_at_lt) | (with_reducible apply heap_drew_at) | (with_reducible apply heap_drewN_at) | (with_reducible apply heap_setCell_same) | ((with_reducible apply heap_set_ne); (first | omega | (dsimp only; omega) | (simp; done) | (simp; omega))) | (with_reducible apply setRow_at) | ((with_reducible apply setRow_ne); (first | omega | (dsimp only; omega) | (simp; done) | (simp; omega))))))); simp)
  have R_1 : w1.heap[w.heap.size + 1 + 1]? = some (.cells #[.int .u64 0, .int .u64 0] 24 (0, 0)) := by rw [hw1]; exact at_of (by apply Exists.intro; refine ⟨?_, ?_⟩; (focus ((repeat (first | (with_reducible assumption) | (with_reducible exact alloc_at _ _) | ((with_reducible apply alloc_at'); (simp; done)) | (with_reducible apply alloc_at_lt) | (with_reducible apply heap_drew_at) | (with_reducible apply heap_drewN_at) | (with_reducible apply heap_setCell_same) | ((with_reducible apply heap_set_ne); (first | omega | (dsimp only; omega) | (simp; done) | (simp; omega))) | (with_reducible apply setRow_at) | ((with_reducible apply setRow_ne); (first | omega | (dsimp only; omega) | (simp; done) | (simp; omega))))))); simp)
  clear hw1
  have Ac0 : w1.cell? ⟨w.heap.size, 0, none⟩ = some (.int .u64 an) := (blk_cell A_1 0).trans rfl
  have Ac1 : w1.cell? ⟨w.heap.size, 1, none⟩ = some (.int .u64 ad) := (blk_cell A_1 1).trans rfl
  have Acf := blk_free A_1
  have Bc0 : w1.cell? ⟨w.heap.size + 1, 0, none⟩ = some (.int .u64 bn) := (blk_cell B_1 0).trans rfl
  have Bc1 : w1.cell? ⟨w.heap.size + 1, 1, none⟩ = some (.int .u64 bd) := (blk_cell B_1 1).trans rfl
  have Bcf := blk_free B_1
  have Rc0 : w1.cell? ⟨w.heap.size + 1 + 1, 0, none⟩ = some (.int .u64 0) := (blk_cell R_1 0).trans rfl
  have Rc1 : w1.cell? ⟨w.heap.size + 1 + 1, 1, none⟩ = some (.int .u64 0) := (blk_cell R_1 1).trans rfl
  have Rcf := blk_free R_1
  have Al1 : w.heap.size < w1.heap.size := lt_of_at A_1
  have Bl1 : w.heap.size + 1 < w1.heap.size := lt_of_at B_1
  have Rl1 : w.heap.size + 1 + 1 < w1.heap.size := lt_of_at R_1
  have Ae0 : ∀ lx_ : Lat w1.heap.size w1, lx_.w.cell? ⟨w.heap.size, 0, none⟩ = some (.int .u64 an) := fun lx_ => by rw [lx_.cell _ _ Al1]; exact Ac0
  have Ae1 : ∀ lx_ : Lat w1.heap.size w1, lx_.w.cell? ⟨w.heap.size, 1, none⟩ = some (.int .u64 ad) := fun lx_ => by rw [lx_.cell _ _ Al1]; exact Ac1
  have Be0 : ∀ lx_ : Lat w1.heap.size w1, lx_.w.cell? ⟨w.heap.size + 1, 0, none⟩ = some (.int .u64 bn) := fun lx_ => by rw [lx_.cell _ _ Bl1]; exact Bc0
  have Be1 : ∀ lx_ : Lat w1.heap.size w1, lx_.w.cell? ⟨w.heap.size + 1, 1, none⟩ = some (.int .u64 bd) := fun lx_ => by rw [lx_.cell _ _ Bl1]; exact Bc1
  refine wp_region_lat_tail 10 (by kernel_rfl) (by kernel_rfl) ?_
  simp only [List.take_succ_cons, List.take_zero, List.drop_succ_cons, List.drop_zero]
  repeat (go_big_quiet_step (first | (go_at_call_of 21 (Value.int IntKind.u64 an); exact lat_of (Nat.le_refl _) (H1.out _)) | (go_at_call_of 21 (Value.int IntKind.u64 bn); exact lat_of (Nat.le_refl _) (H2.out _))))
  refine wpQuiet_nil ?_
  rintro w2 ⟨x2, hx2⟩
  have hb2 := x2.h
  rw [← hx2] at hb2
  clear hx2 x2 Ae0 Ae1 Be0 Be1
  have hs2 := hb2.size
  try simp only [World.size_alloc, World.size_setCell] at hs2
  have A_2 : w2.heap[w.heap.size]? = some (.cells #[.int .u64 an, .int .u64 ad] 24 (0, 0)) := below_at hb2 (by first | omega | (simp; done) | (simp; omega)) (by (repeat (first | (with_reducible assumption) | (with_reducible exact alloc_at _ _) | ((with_reducible apply alloc_at'); (simp; done)) | (with_reducible apply alloc_at_lt) | (with_reducible apply heap_drew_at) | (with_reducible apply heap_drewN_at) | (with_reducible apply heap_setCell_same) | ((with_reducible apply heap_set_ne); (first | omega | (dsimp only; omega) | (simp; done) | (simp; omega))) | (with_reducible apply setRow_at) | ((with_reducible apply setRow_ne); (first | omega | (dsimp only; omega) | (simp; done) | (simp; omega))))))
  have B_2 : w2.heap[w.heap.size + 1]? = some (.cells #[.int .u64 bn, .int .u64 bd] 24 (0, 0)) := below_at hb2 (by first | omega | (simp; done) | (simp; omega)) (by (repeat (first | (with_reducible assumption) | (with_reducible exact alloc_at _ _) | ((with_reducible apply alloc_at'); (simp; done)) | (with_reducible apply alloc_at_lt) | (with_reducible apply heap_drew_at) | (with_reducible apply heap_drewN_at) | (with_reducible apply heap_setCell_same) | ((with_reducible apply heap_set_ne); (first | omega | (dsimp only; omega) | (simp; done) | (simp; omega))) | (with_reducible apply setRow_at) | ((with_reducible apply setRow_ne); (first | omega | (dsimp only; omega) | (simp; done) | (simp; omega))))))
  have R_2 : w2.heap[w.heap.size + 1 + 1]? = some (.cells #[.int .u64 0, .int .u64 0] 24 (0, 0)) := below_at hb2 (by first | omega | (simp; done) | (simp; omega)) (by (repeat (first | (with_reducible assumption) | (with_reducible exact alloc_at _ _) | ((with_reducible apply alloc_at'); (simp; done)) | (with_reducible apply alloc_at_lt) | (with_reducible apply heap_drew_at) | (with_reducible apply heap_drewN_at) | (with_reducible apply heap_setCell_same) | ((with_reducible apply heap_set_ne); (first | omega | (dsimp only; omega) | (simp; done) | (simp; omega))) | (with_reducible apply setRow_at) | ((with_reducible apply setRow_ne); (first | omega | (dsimp only; omega) | (simp; done) | (simp; omega))))))
  have B2 : Below w.heap.size w w2 := Below.trans (by repeat (first | with_reducible assumption | with_reducible exact Below.refl _ _ | with_reducible refine Below.drew ?_ | with_reducible refine below_drewN ?_ _ | with_reducible refine below_alloc ?_ _ | with_reducible refine Below.alloc ?_ (by first | omega | (simp; done) | (simp; omega)) _ | with_reducible refine Below.setCell ?_ (by first | omega | (simp; done) | (simp; omega)) _ | with_reducible refine below_setRow ?_ (by first | omega | (simp; done) | (simp; omega)) _)) (hb2.mono (by first | omega | (simp; done) | (simp; omega)))
  clear hb2 A_1 B_1 R_1
  clear Ac0 Ac1 Acf
  clear Bc0 Bc1 Bcf
  clear Rc0 Rc1 Rcf
  have Ac0 : w2.cell? ⟨w.heap.size, 0, none⟩ = some (.int .u64 an) := (blk_cell A_2 0).trans rfl
  have Ac1 : w2.cell? ⟨w.heap.size, 1, none⟩ = some (.int .u64 ad) := (blk_cell A_2 1).trans rfl
  have Acf := blk_free A_2
  have Bc0 : w2.cell? ⟨w.heap.size + 1, 0, none⟩ = some (.int .u64 bn) := (blk_cell B_2 0).trans rfl
  have Bc1 : w2.cell? ⟨w.heap.size + 1, 1, none⟩ = some (.int .u64 bd) := (blk_cell B_2 1).trans rfl
  have Bcf := blk_free B_2
  have Rc0 : w2.cell? ⟨w.heap.size + 1 + 1, 0, none⟩ = some (.int .u64 0) := (blk_cell R_2 0).trans rfl
  have Rc1 : w2.cell? ⟨w.heap.size + 1 + 1, 1, none⟩ = some (.int .u64 0) := (blk_cell R_2 1).trans rfl
  have Rcf := blk_free R_2
  have Al2 : w.heap.size < w2.heap.size := by omega
  have Bl2 : w.heap.size + 1 < w2.heap.size := by omega
  have Rl2 : w.heap.size + 1 + 1 < w2.heap.size := by omega
  go_wp2_with fail
  obtain ⟨w3, hw3⟩ : ∃ wx_ : World, wx_ = ((((w2.setCell ⟨w.heap.size, 0, none⟩ (.int .u64 x)).setCell ⟨w.heap.size, 1, none⟩ (.int .u64 y)).setCell ⟨w.heap.size + 1, 0, none⟩ (.int .u64 z)).setCell ⟨w.heap.size + 1, 1, none⟩ (.int .u64 t)) := ⟨_, rfl⟩
  rw [← hw3]
  have B3 : Below w.heap.size w w3 := by rw [hw3]; exact (by repeat (first | with_reducible assumption | with_reducible exact Below.refl _ _ | with_reducible refine Below.drew ?_ | with_reducible refine below_drewN ?_ _ | with_reducible refine below_alloc ?_ _ | with_reducible refine Below.alloc ?_ (by first | omega | (simp; done) | (simp; omega)) _ | with_reducible refine Below.setCell ?_ (by first | omega | (simp; done) | (simp; omega)) _ | with_reducible refine below_setRow ?_ (by first | omega | (simp; done) | (simp; omega)) _))
  have A_3 : w3.heap[w.heap.size]? = some (.cells #[.int .u64 x, .int .u64 y] 24 (0, 0)) := by rw [hw3]; exact at_of (by apply Exists.intro; refine ⟨?_, ?_⟩; (focus ((repeat (first | (with_reducible assumption) | (with_reducible exact alloc_at _ _) | ((with_reducible apply alloc_at'); (simp; done)) | (with_reducible apply alloc_at_lt) | (with_reducible apply heap_drew_at) | (with_reducible apply heap_drewN_at) | (with_reducible apply heap_setCell_same) | ((with_reducible apply heap_set_ne); (first | omega | (dsimp only; omega) | (simp; done) | (simp; omega))) | (with_reducible apply setRow_at) | ((with_reducible apply setRow_ne); (first | omega | (dsimp only; omega) | (simp; done) | (simp; omega))))))); simp)
  have B_3 : w3.heap[w.heap.size + 1]? = some (.cells #[.int .u64 z, .int .u64 t] 24 (0, 0)) := by rw [hw3]; exact at_of (by apply Exists.intro; refine ⟨?_, ?_⟩; (focus ((repeat (first | (with_reducible assumption) | (with_reducible exact alloc_at _ _) | ((with_reducible apply alloc_at'); (simp; done)) | (with_reducible apply alloc_at_lt) | (with_reducible apply heap_drew_at) | (with_reducible apply heap_drewN_at) | (with_reducible apply heap_setCell_same) | ((with_reducible apply heap_set_ne); (first | omega | (dsimp only; omega) | (simp; done) | (simp; omega))) | (with_reducible apply setRow_at) | ((with_reducible apply setRow_ne); (first | omega | (dsimp only; omega) | (simp; done) | (simp; omega))))))); simp)
  have R_3 : w3.heap[w.heap.size + 1 + 1]? = some (.cells #[.int .u64 0, .int .u64 0] 24 (0, 0)) := by rw [hw3]; exact at_of (by apply Exists.intro; refine ⟨?_, ?_⟩; (focus ((repeat (first | (with_reducible assumption) | (with_reducible exact alloc_at _ _) | ((with_reducible apply alloc_at'); (simp; done)) | (with_reducible apply alloc_at_lt) | (with_reducible apply heap_drew_at) | (with_reducible apply heap_drewN_at) | (with_reducible apply heap_setCell_same) | ((with_reducible apply heap_set_ne); (first | omega | (dsimp only; omega) | (simp; done) | (simp; omega))) | (with_reducible apply setRow_at) | ((with_reducible apply setRow_ne); (first | omega | (dsimp only; omega) | (simp; done) | (simp; omega))))))); simp)
  clear hw3
  have Ac0 : w3.cell? ⟨w.heap.size, 0, none⟩ = some (.int .u64 x) := (blk_cell A_3 0).trans rfl
  have Ac1 : w3.cell? ⟨w.heap.size, 1, none⟩ = some (.int .u64 y) := (blk_cell A_3 1).trans rfl
  have Acf := blk_free A_3
  have Bc0 : w3.cell? ⟨w.heap.size + 1, 0, none⟩ = some (.int .u64 z) := (blk_cell B_3 0).trans rfl
  have Bc1 : w3.cell? ⟨w.heap.size + 1, 1, none⟩ = some (.int .u64 t) := (blk_cell B_3 1).trans rfl
  have Bcf := blk_free B_3
  have Rc0 : w3.cell? ⟨w.heap.size + 1 + 1, 0, none⟩ = some (.int .u64 0) := (blk_cell R_3 0).trans rfl
  have Rc1 : w3.cell? ⟨w.heap.size + 1 + 1, 1, none⟩ = some (.int .u64 0) := (blk_cell R_3 1).trans rfl
  have Rcf := blk_free R_3
  have Al3 : w.heap.size < w3.heap.size := lt_of_at A_3
  have Bl3 : w.heap.size + 1 < w3.heap.size := lt_of_at B_3
  have Rl3 : w.heap.size + 1 + 1 < w3.heap.size := lt_of_at R_3
  have Ae0 : ∀ lx_ : Lat w3.heap.size w3, lx_.w.cell? ⟨w.heap.size, 0, none⟩ = some (.int .u64 x) := fun lx_ => by rw [lx_.cell _ _ Al3]; exact Ac0
  have Ae1 : ∀ lx_ : Lat w3.heap.size w3, lx_.w.cell? ⟨w.heap.size, 1, none⟩ = some (.int .u64 y) := fun lx_ => by rw [lx_.cell _ _ Al3]; exact Ac1
  have Be0 : ∀ lx_ : Lat w3.heap.size w3, lx_.w.cell? ⟨w.heap.size + 1, 0, none⟩ = some (.int .u64 z) := fun lx_ => by rw [lx_.cell _ _ Bl3]; exact Bc0
  have Be1 : ∀ lx_ : Lat w3.heap.size w3, lx_.w.cell? ⟨w.heap.size + 1, 1, none⟩ = some (.int .u64 t) := fun lx_ => by rw [lx_.cell _ _ Bl3]; exact Bc1
  refine wp_region_lat_tail 10 (by kernel_rfl) (by kernel_rfl) ?_
  simp only [List.take_succ_cons, List.take_zero, List.drop_succ_cons, List.drop_zero]
  repeat (go_big_quiet_step (first | (go_at_call_of 21 (Value.int IntKind.u64 t); exact lat_of (Nat.le_refl _) (H3.out _)) | (go_at_call_of 21 (Value.int IntKind.u64 y); exact lat_of (Nat.le_refl _) (H4.out _))))
  refine wpQuiet_nil ?_
  rintro w4 ⟨x4, hx4⟩
  have hb4 := x4.h
  rw [← hx4] at hb4
  clear hx4 x4 Ae0 Ae1 Be0 Be1
  have hs4 := hb4.size
  try simp only [World.size_alloc, World.size_setCell] at hs4
  have A_4 : w4.heap[w.heap.size]? = some (.cells #[.int .u64 x, .int .u64 y] 24 (0, 0)) := below_at hb4 (by first | omega | (simp; done) | (simp; omega)) (by (repeat (first | (with_reducible assumption) | (with_reducible exact alloc_at _ _) | ((with_reducible apply alloc_at'); (simp; done)) | (with_reducible apply alloc_at_lt) | (with_reducible apply heap_drew_at) | (with_reducible apply heap_drewN_at) | (with_reducible apply heap_setCell_same) | ((with_reducible apply heap_set_ne); (first | omega | (dsimp only; omega) | (simp; done) | (simp; omega))) | (with_reducible apply setRow_at) | ((with_reducible apply setRow_ne); (first | omega | (dsimp only; omega) | (simp; done) | (simp; omega))))))
  have B_4 : w4.heap[w.heap.size + 1]? = some (.cells #[.int .u64 z, .int .u64 t] 24 (0, 0)) := below_at hb4 (by first | omega | (simp; done) | (simp; omega)) (by (repeat (first | (with_reducible assumption) | (with_reducible exact alloc_at _ _) | ((with_reducible apply alloc_at'); (simp; done)) | (with_reducible apply alloc_at_lt) | (with_reducible apply heap_drew_at) | (with_reducible apply heap_drewN_at) | (with_reducible apply heap_setCell_same) | ((with_reducible apply heap_set_ne); (first | omega | (dsimp only; omega) | (simp; done) | (simp; omega))) | (with_reducible apply setRow_at) | ((with_reducible apply setRow_ne); (first | omega | (dsimp only; omega) | (simp; done) | (simp; omega))))))
  have R_4 : w4.heap[w.heap.size + 1 + 1]? = some (.cells #[.int .u64 0, .int .u64 0] 24 (0, 0)) := below_at hb4 (by first | omega | (simp; done) | (simp; omega)) (by (repeat (first | (with_reducible assumption) | (with_reducible exact alloc_at _ _) | ((with_reducible apply alloc_at'); (simp; done)) | (with_reducible apply alloc_at_lt) | (with_reducible apply heap_drew_at) | (with_reducible apply heap_drewN_at) | (with_reducible apply heap_setCell_same) | ((with_reducible apply heap_set_ne); (first | omega | (dsimp only; omega) | (simp; done) | (simp; omega))) | (with_reducible apply setRow_at) | ((with_reducible apply setRow_ne); (first | omega | (dsimp only; omega) | (simp; done) | (simp; omega))))))
  have B4 : Below w.heap.size w w4 := Below.trans (by repeat (first | with_reducible assumption | with_reducible exact Below.refl _ _ | with_reducible refine Below.drew ?_ | with_reducible refine below_drewN ?_ _ | with_reducible refine below_alloc ?_ _ | with_reducible refine Below.alloc ?_ (by first | omega | (simp; done) | (simp; omega)) _ | with_reducible refine Below.setCell ?_ (by first | omega | (simp; done) | (simp; omega)) _ | with_reducible refine below_setRow ?_ (by first | omega | (simp; done) | (simp; omega)) _)) (hb4.mono (by first | omega | (simp; done) | (simp; omega)))
  clear hb4 A_3 B_3 R_3
  clear Ac0 Ac1 Acf
  clear Bc0 Bc1 Bcf
  clear Rc0 Rc1 Rcf
  have Ac0 : w4.cell? ⟨w.heap.size, 0, none⟩ = some (.int .u64 x) := (blk_cell A_4 0).trans rfl
  have Ac1 : w4.cell? ⟨w.heap.size, 1, none⟩ = some (.int .u64 y) := (blk_cell A_4 1).trans rfl
  have Acf := blk_free A_4
  have Bc0 : w4.cell? ⟨w.heap.size + 1, 0, none⟩ = some (.int .u64 z) := (blk_cell B_4 0).trans rfl
  have Bc1 : w4.cell? ⟨w.heap.size + 1, 1, none⟩ = some (.int .u64 t) := (blk_cell B_4 1).trans rfl
  have Bcf := blk_free B_4
  have Rc0 : w4.cell? ⟨w.heap.size + 1 + 1, 0, none⟩ = some (.int .u64 0) := (blk_cell R_4 0).trans rfl
  have Rc1 : w4.cell? ⟨w.heap.size + 1 + 1, 1, none⟩ = some (.int .u64 0) := (blk_cell R_4 1).trans rfl
  have Rcf := blk_free R_4
  have Al4 : w.heap.size < w4.heap.size := by omega
  have Bl4 : w.heap.size + 1 < w4.heap.size := by omega
  have Rl4 : w.heap.size + 1 + 1 < w4.heap.size := by omega
  go_wp2_with fail
  refine (M1.out _).mono ?_
  rintro e w5 ⟨rfl, hb5⟩
  have hs5 := hb5.size
  try simp only [World.size_alloc, World.size_setCell] at hs5
  have A_5 : w5.heap[w.heap.size]? = some (.cells #[.int .u64 p, .int .u64 q] 24 (0, 0)) := below_at hb5 (by first | omega | (simp; done) | (simp; omega)) (at_of (by apply Exists.intro; refine ⟨?_, ?_⟩; (focus ((repeat (first | (with_reducible assumption) | (with_reducible exact alloc_at _ _) | ((with_reducible apply alloc_at'); (simp; done)) | (with_reducible apply alloc_at_lt) | (with_reducible apply heap_drew_at) | (with_reducible apply heap_drewN_at) | (with_reducible apply heap_setCell_same) | ((with_reducible apply heap_set_ne); (first | omega | (dsimp only; omega) | (simp; done) | (simp; omega))) | (with_reducible apply setRow_at) | ((with_reducible apply setRow_ne); (first | omega | (dsimp only; omega) | (simp; done) | (simp; omega))))))); simp))
  have B_5 : w5.heap[w.heap.size + 1]? = some (.cells #[.int .u64 r, .int .u64 s] 24 (0, 0)) := below_at hb5 (by first | omega | (simp; done) | (simp; omega)) (at_of (by apply Exists.intro; refine ⟨?_, ?_⟩; (focus ((repeat (first | (with_reducible assumption) | (with_reducible exact alloc_at _ _) | ((with_reducible apply alloc_at'); (simp; done)) | (with_reducible apply alloc_at_lt) | (with_reducible apply heap_drew_at) | (with_reducible apply heap_drewN_at) | (with_reducible apply heap_setCell_same) | ((with_reducible apply heap_set_ne); (first | omega | (dsimp only; omega) | (simp; done) | (simp; omega))) | (with_reducible apply setRow_at) | ((with_reducible apply setRow_ne); (first | omega | (dsimp only; omega) | (simp; done) | (simp; omega))))))); simp))
  have R_5 : w5.heap[w.heap.size + 1 + 1]? = some (.cells #[.int .u64 0, .int .u64 0] 24 (0, 0)) := below_at hb5 (by first | omega | (simp; done) | (simp; omega)) (by (repeat (first | (with_reducible assumption) | (with_reducible exact alloc_at _ _) | ((with_reducible apply alloc_at'); (simp; done)) | (with_reducible apply alloc_at_lt) | (with_reducible apply heap_drew_at) | (with_reducible apply heap_drewN_at) | (with_reducible apply heap_setCell_same) | ((with_reducible apply heap_set_ne); (first | omega | (dsimp only; omega) | (simp; done) | (simp; omega))) | (with_reducible apply setRow_at) | ((with_reducible apply setRow_ne); (first | omega | (dsimp only; omega) | (simp; done) | (simp; omega))))))
  have B5 : Below w.heap.size w w5 := Below.trans (by repeat (first | with_reducible assumption | with_reducible exact Below.refl _ _ | with_reducible refine Below.drew ?_ | with_reducible refine below_drewN ?_ _ | with_reducible refine below_alloc ?_ _ | with_reducible refine Below.alloc ?_ (by first | omega | (simp; done) | (simp; omega)) _ | with_reducible refine Below.setCell ?_ (by first | omega | (simp; done) | (simp; omega)) _ | with_reducible refine below_setRow ?_ (by first | omega | (simp; done) | (simp; omega)) _)) (hb5.mono (by first | omega | (simp; done) | (simp; omega)))
  clear hb5 A_4 B_4 R_4
  clear Ac0 Ac1 Acf
  clear Bc0 Bc1 Bcf
  clear Rc0 Rc1 Rcf
  have Ac0 : w5.cell? ⟨w.heap.size, 0, none⟩ = some (.int .u64 p) := (blk_cell A_5 0).trans rfl
  have Ac1 : w5.cell? ⟨w.heap.size, 1, none⟩ = some (.int .u64 q) := (blk_cell A_5 1).trans rfl
  have Acf := blk_free A_5
  have Bc0 : w5.cell? ⟨w.heap.size + 1, 0, none⟩ = some (.int .u64 r) := (blk_cell B_5 0).trans rfl
  have Bc1 : w5.cell? ⟨w.heap.size + 1, 1, none⟩ = some (.int .u64 s) := (blk_cell B_5 1).trans rfl
  have Bcf := blk_free B_5
  have Rc0 : w5.cell? ⟨w.heap.size + 1 + 1, 0, none⟩ = some (.int .u64 0) := (blk_cell R_5 0).trans rfl
  have Rc1 : w5.cell? ⟨w.heap.size + 1 + 1, 1, none⟩ = some (.int .u64 0) := (blk_cell R_5 1).trans rfl
  have Rcf := blk_free R_5
  have Al5 : w.heap.size < w5.heap.size := by omega
  have Bl5 : w.heap.size + 1 < w5.heap.size := by omega
  have Rl5 : w.heap.size + 1 + 1 < w5.heap.size := by omega
  go_wp2_with fail
  refine (M2.out _).mono ?_
  rintro e w6 ⟨rfl, hb6⟩
  have hs6 := hb6.size
  try simp only [World.size_alloc, World.size_setCell] at hs6
  have A_6 : w6.heap[w.heap.size]? = some (.cells #[.int .u64 p, .int .u64 q] 24 (0, 0)) := below_at hb6 (by first | omega | (simp; done) | (simp; omega)) (at_of (by apply Exists.intro; refine ⟨?_, ?_⟩; (focus ((repeat (first | (with_reducible assumption) | (with_reducible exact alloc_at _ _) | ((with_reducible apply alloc_at'); (simp; done)) | (with_reducible apply alloc_at_lt) | (with_reducible apply heap_drew_at) | (with_reducible apply heap_drewN_at) | (with_reducible apply heap_setCell_same) | ((with_reducible apply heap_set_ne); (first | omega | (dsimp only; omega) | (simp; done) | (simp; omega))) | (with_reducible apply setRow_at) | ((with_reducible apply setRow_ne); (first | omega | (dsimp only; omega) | (simp; done) | (simp; omega))))))); simp))
  have B_6 : w6.heap[w.heap.size + 1]? = some (.cells #[.int .u64 r, .int .u64 s] 24 (0, 0)) := below_at hb6 (by first | omega | (simp; done) | (simp; omega)) (at_of (by apply Exists.intro; refine ⟨?_, ?_⟩; (focus ((repeat (first | (with_reducible assumption) | (with_reducible exact alloc_at _ _) | ((with_reducible apply alloc_at'); (simp; done)) | (with_reducible apply alloc_at_lt) | (with_reducible apply heap_drew_at) | (with_reducible apply heap_drewN_at) | (with_reducible apply heap_setCell_same) | ((with_reducible apply heap_set_ne); (first | omega | (dsimp only; omega) | (simp; done) | (simp; omega))) | (with_reducible apply setRow_at) | ((with_reducible apply setRow_ne); (first | omega | (dsimp only; omega) | (simp; done) | (simp; omega))))))); simp))
  have R_6 : w6.heap[w.heap.size + 1 + 1]? = some (.cells #[.int .u64 0, .int .u64 0] 24 (0, 0)) := below_at hb6 (by first | omega | (simp; done) | (simp; omega)) (by (repeat (first | (with_reducible assumption) | (with_reducible exact alloc_at _ _) | ((with_reducible apply alloc_at'); (simp; done)) | (with_reducible apply alloc_at_lt) | (with_reducible apply heap_drew_at) | (with_reducible apply heap_drewN_at) | (with_reducible apply heap_setCell_same) | ((with_reducible apply heap_set_ne); (first | omega | (dsimp only; omega) | (simp; done) | (simp; omega))) | (with_reducible apply setRow_at) | ((with_reducible apply setRow_ne); (first | omega | (dsimp only; omega) | (simp; done) | (simp; omega))))))
  have B6 : Below w.heap.size w w6 := Below.trans (by repeat (first | with_reducible assumption | with_reducible exact Below.refl _ _ | with_reducible refine Below.drew ?_ | with_reducible refine below_drewN ?_ _ | with_reducible refine below_alloc ?_ _ | with_reducible refine Below.alloc ?_ (by first | omega | (simp; done) | (simp; omega)) _ | with_reducible refine Below.setCell ?_ (by first | omega | (simp; done) | (simp; omega)) _ | with_reducible refine below_setRow ?_ (by first | omega | (simp; done) | (simp; omega)) _)) (hb6.mono (by first | omega | (simp; done) | (simp; omega)))
  clear hb6 A_5 B_5 R_5
  clear Ac0 Ac1 Acf
  clear Bc0 Bc1 Bcf
  clear Rc0 Rc1 Rcf
  have Ac0 : w6.cell? ⟨w.heap.size, 0, none⟩ = some (.int .u64 p) := (blk_cell A_6 0).trans rfl
  have Ac1 : w6.cell? ⟨w.heap.size, 1, none⟩ = some (.int .u64 q) := (blk_cell A_6 1).trans rfl
  have Acf := blk_free A_6
  have Bc0 : w6.cell? ⟨w.heap.size + 1, 0, none⟩ = some (.int .u64 r) := (blk_cell B_6 0).trans rfl
  have Bc1 : w6.cell? ⟨w.heap.size + 1, 1, none⟩ = some (.int .u64 s) := (blk_cell B_6 1).trans rfl
  have Bcf := blk_free B_6
  have Rc0 : w6.cell? ⟨w.heap.size + 1 + 1, 0, none⟩ = some (.int .u64 0) := (blk_cell R_6 0).trans rfl
  have Rc1 : w6.cell? ⟨w.heap.size + 1 + 1, 1, none⟩ = some (.int .u64 0) := (blk_cell R_6 1).trans rfl
  have Rcf := blk_free R_6
  have Al6 : w.heap.size < w6.heap.size := by omega
  have Bl6 : w.heap.size + 1 < w6.heap.size := by omega
  have Rl6 : w.heap.size + 1 + 1 < w6.heap.size := by omega
  go_wp2
  refine ret_row2 rfl (w.heap.size + 1 + 1) #[.int .u64 0, .int .u64 0] 24 _ rfl Try.underlying24 rfl infoR rfl (by apply Exists.intro; refine ⟨?_, ?_⟩; (focus ((repeat (first | (with_reducible assumption) | (with_reducible exact alloc_at _ _) | ((with_reducible apply alloc_at'); (simp; done)) | (with_reducible apply alloc_at_lt) | (with_reducible apply heap_drew_at) | (with_reducible apply heap_drewN_at) | (with_reducible apply heap_setCell_same) | ((with_reducible apply heap_set_ne); (first | omega | (dsimp only; omega) | (simp; done) | (simp; omega))) | (with_reducible apply setRow_at) | ((with_reducible apply setRow_ne); (first | omega | (dsimp only; omega) | (simp; done) | (simp; omega))))))); simp) ⟨rfl, (by repeat (first | with_reducible assumption | with_reducible exact Below.refl _ _ | with_reducible refine Below.drew ?_ | with_reducible refine below_drewN ?_ _ | with_reducible refine below_alloc ?_ _ | with_reducible refine Below.alloc ?_ (by first | omega | (simp; done) | (simp; omega)) _ | with_reducible refine Below.setCell ?_ (by first | omega | (simp; done) | (simp; omega)) _ | with_reducible refine below_setRow ?_ (by first | omega | (simp; done) | (simp; omega)) _))⟩
set_option maxRecDepth 100000 in
set_option maxHeartbeats 4000000 in
theorem mul_o2 (an ad bn bd x y z t p q r s h n l d : Int) (w : World) (hn : (h != 0) = false) (ho : (l != 0) = true) (hp : (ad == 0) = false) (hq : (bd == 0) = false) (H1 : Hid (∀ W, Calls Try.prog 21 #[.int .u64 an, .int .u64 ad] W fun e w' => e = .returned (.agg #[.int .u64 x, .int .u64 y]) ∧ Below W.heap.size W w')) (H2 : Hid (∀ W, Calls Try.prog 21 #[.int .u64 bn, .int .u64 bd] W fun e w' => e = .returned (.agg #[.int .u64 z, .int .u64 t]) ∧ Below W.heap.size W w'))
    (H3 : Hid (∀ W, Calls Try.prog 21 #[.int .u64 x, .int .u64 t] W fun e w' => e = .returned (.agg #[.int .u64 p, .int .u64 q]) ∧ Below W.heap.size W w')) (H4 : Hid (∀ W, Calls Try.prog 21 #[.int .u64 z, .int .u64 y] W fun e w' => e = .returned (.agg #[.int .u64 r, .int .u64 s]) ∧ Below W.heap.size W w')) (M1 : Hid (∀ W, Calls Try.prog 22 #[.int .u64 p, .int .u64 r] W fun e w' => e = .returned (.tuple #[.int .u64 h, .int .u64 n]) ∧ Below W.heap.size W w')) (M2 : Hid (∀ W, Calls Try.prog 22 #[.int .u64 q, .int .u64 s] W fun e w' => e = .returned (.tuple #[.int .u64 l, .int .u64 d]) ∧ Below W.heap.size W w')) :
    Calls Try.prog 16 #[.agg #[.int .u64 an, .int .u64 ad], .agg #[.int .u64 bn, .int .u64 bd]] w fun e w' => e = .returned (.tuple #[.agg #[.int .u64 0, .int .u64 0], .int .i64 7]) ∧ Below w.heap.size w w' := by
  go_enter Try.func16, Try.ntmps16
  go_wp2_with fail
  obtain ⟨w1, hw1⟩ : ∃ wx_ : World, wx_ = ((w.alloc (.cells #[.int .u64 an, .int .u64 ad] 24)).alloc (.cells #[.int .u64 bn, .int .u64 bd] 24)).alloc (.cells #[.int .u64 0, .int .u64 0] 24) := ⟨_, rfl⟩
  rw [← hw1]
  have B1 : Below w.heap.size w w1 := by rw [hw1]; exact (by repeat (first | with_reducible assumption | with_reducible exact Below.refl _ _ | with_reducible refine Below.drew ?_ | with_reducible refine below_drewN ?_ _ | with_reducible refine below_alloc ?_ _ | with_reducible refine Below.alloc ?_ (by first | omega | (simp; done) | (simp; omega)) _ | with_reducible refine Below.setCell ?_ (by first | omega | (simp; done) | (simp; omega)) _ | with_reducible refine below_setRow ?_ (by first | omega | (simp; done) | (simp; omega)) _))
  have A_1 : w1.heap[w.heap.size]? = some (.cells #[.int .u64 an, .int .u64 ad] 24 (0, 0)) := by rw [hw1]; exact at_of (by apply Exists.intro; refine ⟨?_, ?_⟩; (focus ((repeat (first | (with_reducible assumption) | (with_reducible exact alloc_at _ _) | ((with_reducible apply alloc_at'); (simp; done)) | (with_reducible apply alloc_at_lt) | (with_reducible apply heap_drew_at) | (with_reducible apply heap_drewN_at) | (with_reducible apply heap_setCell_same) | ((with_reducible apply heap_set_ne); (first | omega | (dsimp only; omega) | (simp; done) | (simp; omega))) | (with_reducible apply setRow_at) | ((with_reducible apply setRow_ne); (first | omega | (dsimp only; omega) | (simp; done) | (simp; omega))))))); simp)
  have B_1 : w1.heap[w.heap.size + 1]? = some (.cells #[.int .u64 bn, .int .u64 bd] 24 (0, 0)) := by rw [hw1]; exact at_of (by apply Exists.intro; refine ⟨?_, ?_⟩; (focus ((repeat (first | (with_reducible assumption) | (with_reducible exact alloc_at _ _) | ((with_reducible apply alloc_at'); (simp; done)) | (with_reducible apply alloc_at_lt) | (with_reducible apply heap_drew_at) | (with_reducible apply heap_drewN_at) | (with_reducible apply heap_setCell_same) | ((with_reducible apply heap_set_ne); (first | omega | (dsimp only; omega) | (simp; done) | (simp; omega))) | (with_reducible apply setRow_at) | ((with_reducible apply setRow_ne); (first | omega | (dsimp only; omega) | (simp; done) | (simp; omega))))))); simp)
  have R_1 : w1.heap[w.heap.size + 1 + 1]? = some (.cells #[.int .u64 0, .int .u64 0] 24 (0, 0)) := by rw [hw1]; exact at_of (by apply Exists.intro; refine ⟨?_, ?_⟩; (focus ((repeat (first | (with_reducible assumption) | (with_reducible exact alloc_at _ _) | ((with_reducible apply alloc_at'); (simp; done)) | (with_reducible apply alloc_at_lt) | (with_reducible apply heap_drew_at) | (with_reducible apply heap_drewN_at) | (with_reducible apply heap_setCell_same) | ((with_reducible apply heap_set_ne); (first | omega | (dsimp only; omega) | (simp; done) | (simp; omega))) | (with_reducible apply setRow_at) | ((with_reducible apply setRow_ne); (first | omega | (dsimp only; omega) | (simp; done) | (simp; omega))))))); simp)
  clear hw1
  have Ac0 : w1.cell? ⟨w.heap.size, 0, none⟩ = some (.int .u64 an) := (blk_cell A_1 0).trans rfl
  have Ac1 : w1.cell? ⟨w.heap.size, 1, none⟩ = some (.int .u64 ad) := (blk_cell A_1 1).trans rfl
  have Acf := blk_free A_1
  have Bc0 : w1.cell? ⟨w.heap.size + 1, 0, none⟩ = some (.int .u64 bn) := (blk_cell B_1 0).trans rfl
  have Bc1 : w1.cell? ⟨w.heap.size + 1, 1, none⟩ = some (.int .u64 bd) := (blk_cell B_1 1).trans rfl
  have Bcf := blk_free B_1
  have Rc0 : w1.cell? ⟨w.heap.size + 1 + 1, 0, none⟩ = some (.int .u64 0) := (blk_cell R_1 0).trans rfl
  have Rc1 : w1.cell? ⟨w.heap.size + 1 + 1, 1, none⟩ = some (.int .u64 0) := (blk_cell R_1 1).trans rfl
  have Rcf := blk_free R_1
  have Al1 : w.heap.size < w1.heap.size := lt_of_at A_1
  have Bl1 : w.heap.size + 1 < w1.heap.size := lt_of_at B_1
  have Rl1 : w.heap.size + 1 + 1 < w1.heap.size := lt_of_at R_1
  have Ae0 : ∀ lx_ : Lat w1.heap.size w1, lx_.w.cell? ⟨w.heap.size, 0, none⟩ = some (.int .u64 an) := fun lx_ => by rw [lx_.cell _ _ Al1]; exact Ac0
  have Ae1 : ∀ lx_ : Lat w1.heap.size w1, lx_.w.cell? ⟨w.heap.size, 1, none⟩ = some (.int .u64 ad) := fun lx_ => by rw [lx_.cell _ _ Al1]; exact Ac1
  have Be0 : ∀ lx_ : Lat w1.heap.size w1, lx_.w.cell? ⟨w.heap.size + 1, 0, none⟩ = some (.int .u64 bn) := fun lx_ => by rw [lx_.cell _ _ Bl1]; exact Bc0
  have Be1 : ∀ lx_ : Lat w1.heap.size w1, lx_.w.cell? ⟨w.heap.size + 1, 1, none⟩ = some (.int .u64 bd) := fun lx_ => by rw [lx_.cell _ _ Bl1]; exact Bc1
  refine wp_region_lat_tail 10 (by kernel_rfl) (by kernel_rfl) ?_
  simp only [List.take_succ_cons, List.take_zero, List.drop_succ_cons, List.drop_zero]
  repeat (go_big_quiet_step (first | (go_at_call_of 21 (Value.int IntKind.u64 an); exact lat_of (Nat.le_refl _) (H1.out _)) | (go_at_call_of 21 (Value.int IntKind.u64 bn); exact lat_of (Nat.le_refl _) (H2.out _))))
  refine wpQuiet_nil ?_
  rintro w2 ⟨x2, hx2⟩
  have hb2 := x2.h
  rw [← hx2] at hb2
  clear hx2 x2 Ae0 Ae1 Be0 Be1
  have hs2 := hb2.size
  try simp only [World.size_alloc, World.size_setCell] at hs2
  have A_2 : w2.heap[w.heap.size]? = some (.cells #[.int .u64 an, .int .u64 ad] 24 (0, 0)) := below_at hb2 (by first | omega | (simp; done) | (simp; omega)) (by (repeat (first | (with_reducible assumption) | (with_reducible exact alloc_at _ _) | ((with_reducible apply alloc_at'); (simp; done)) | (with_reducible apply alloc_at_lt) | (with_reducible apply heap_drew_at) | (with_reducible apply heap_drewN_at) | (with_reducible apply heap_setCell_same) | ((with_reducible apply heap_set_ne); (first | omega | (dsimp only; omega) | (simp; done) | (simp; omega))) | (with_reducible apply setRow_at) | ((with_reducible apply setRow_ne); (first | omega | (dsimp only; omega) | (simp; done) | (simp; omega))))))
  have B_2 : w2.heap[w.heap.size + 1]? = some (.cells #[.int .u64 bn, .int .u64 bd] 24 (0, 0)) := below_at hb2 (by first | omega | (simp; done) | (simp; omega)) (by (repeat (first | (with_reducible assumption) | (with_reducible exact alloc_at _ _) | ((with_reducible apply alloc_at'); (simp; done)) | (with_reducible apply alloc_at_lt) | (with_reducible apply heap_drew_at) | (with_reducible apply heap_drewN_at) | (with_reducible apply heap_setCell_same) | ((with_reducible apply heap_set_ne); (first | omega | (dsimp only; omega) | (simp; done) | (simp; omega))) | (with_reducible apply setRow_at) | ((with_reducible apply setRow_ne); (first | omega | (dsimp only; omega) | (simp; done) | (simp; omega))))))
  have R_2 : w2.heap[w.heap.size + 1 + 1]? = some (.cells #[.int .u64 0, .int .u64 0] 24 (0, 0)) := below_at hb2 (by first | omega | (simp; done) | (simp; omega)) (by (repeat (first | (with_reducible assumption) | (with_reducible exact alloc_at _ _) | ((with_reducible apply alloc_at'); (simp; done)) | (with_reducible apply alloc_at_lt) | (with_reducible apply heap_drew_at) | (with_reducible apply heap_drewN_at) | (with_reducible apply heap_setCell_same) | ((with_reducible apply heap_set_ne); (first | omega | (dsimp only; omega) | (simp; done) | (simp; omega))) | (with_reducible apply setRow_at) | ((with_reducible apply setRow_ne); (first | omega | (dsimp only; omega) | (simp; done) | (simp; omega))))))
  have B2 : Below w.heap.size w w2 := Below.trans (by repeat (first | with_reducible assumption | with_reducible exact Below.refl _ _ | with_reducible refine Below.drew ?_ | with_reducible refine below_drewN ?_ _ | with_reducible refine below_alloc ?_ _ | with_reducible refine Below.alloc ?_ (by first | omega | (simp; done) | (simp; omega)) _ | with_reducible refine Below.setCell ?_ (by first | omega | (simp; done) | (simp; omega)) _ | with_reducible refine below_setRow ?_ (by first | omega | (simp; done) | (simp; omega)) _)) (hb2.mono (by first | omega | (simp; done) | (simp; omega)))
  clear hb2 A_1 B_1 R_1
  clear Ac0 Ac1 Acf
  clear Bc0 Bc1 Bcf
  clear Rc0 Rc1 Rcf
  have Ac0 : w2.cell? ⟨w.heap.size, 0, none⟩ = some (.int .u64 an) := (blk_cell A_2 0).trans rfl
  have Ac1 : w2.cell? ⟨w.heap.size, 1, none⟩ = some (.int .u64 ad) := (blk_cell A_2 1).trans rfl
  have Acf := blk_free A_2
  have Bc0 : w2.cell? ⟨w.heap.size + 1, 0, none⟩ = some (.int .u64 bn) := (blk_cell B_2 0).trans rfl
  have Bc1 : w2.cell? ⟨w.heap.size + 1, 1, none⟩ = some (.int .u64 bd) := (blk_cell B_2 1).trans rfl
  have Bcf := blk_free B_2
  have Rc0 : w2.cell? ⟨w.heap.size + 1 + 1, 0, none⟩ = some (.int .u64 0) := (blk_cell R_2 0).trans rfl
  have Rc1 : w2.cell? ⟨w.heap.size + 1 + 1, 1, none⟩ = some (.int .u64 0) := (blk_cell R_2 1).trans rfl
  have Rcf := blk_free R_2
  have Al2 : w.heap.size < w2.heap.size := by omega
  have Bl2 : w.heap.size + 1 < w2.heap.size := by omega
  have Rl2 : w.heap.size + 1 + 1 < w2.heap.size := by omega
  go_wp2_with fail
  obtain ⟨w3, hw3⟩ : ∃ wx_ : World, wx_ = ((((w2.setCell ⟨w.heap.size, 0, none⟩ (.int .u64 x)).setCell ⟨w.heap.size, 1, none⟩ (.int .u64 y)).setCell ⟨w.heap.size + 1, 0, none⟩ (.int .u64 z)).setCell ⟨w.heap.size + 1, 1, none⟩ (.int .u64 t)) := ⟨_, rfl⟩
  rw [← hw3]
  have B3 : Below w.heap.size w w3 := by rw [hw3]; exact (by repeat (first | with_reducible assumption | with_reducible exact Below.refl _ _ | with_reducible refine Below.drew ?_ | with_reducible refine below_drewN ?_ _ | with_reducible refine below_alloc ?_ _ | with_reducible refine Below.alloc ?_ (by first | omega | (simp; done) | (simp; omega)) _ | with_reducible refine Below.setCell ?_ (by first | omega | (simp; done) | (simp; omega)) _ | with_reducible refine below_setRow ?_ (by first | omega | (simp; done) | (simp; omega)) _))
  have A_3 : w3.heap[w.heap.size]? = some (.cells #[.int .u64 x, .int .u64 y] 24 (0, 0)) := by rw [hw3]; exact at_of (by apply Exists.intro; refine ⟨?_, ?_⟩; (focus ((repeat (first | (with_reducible assumption) | (with_reducible exact alloc_at _ _) | ((with_reducible apply alloc_at'); (simp; done)) | (with_reducible apply alloc_at_lt) | (with_reducible apply heap_drew_at) | (with_reducible apply heap_drewN_at) | (with_reducible apply heap_setCell_same) | ((with_reducible apply heap_set_ne); (first | omega | (dsimp only; omega) | (simp; done) | (simp; omega))) | (with_reducible apply setRow_at) | ((with_reducible apply setRow_ne); (first | omega | (dsimp only; omega) | (simp; done) | (simp; omega))))))); simp)
  have B_3 : w3.heap[w.heap.size + 1]? = some (.cells #[.int .u64 z, .int .u64 t] 24 (0, 0)) := by rw [hw3]; exact at_of (by apply Exists.intro; refine ⟨?_, ?_⟩; (focus ((repeat (first | (with_reducible assumption) | (with_reducible exact alloc_at _ _) | ((with_reducible apply alloc_at'); (simp; done)) | (with_reducible apply alloc_at_lt) | (with_reducible apply heap_drew_at) | (with_reducible apply heap_drewN_at) | (with_reducible apply heap_setCell_same) | ((with_reducible apply heap_set_ne); (first | omega | (dsimp only; omega) | (simp; done) | (simp; omega))) | (with_reducible apply setRow_at) | ((with_reducible apply setRow_ne); (first | omega | (dsimp only; omega) | (simp; done) | (simp; omega))))))); simp)
  have R_3 : w3.heap[w.heap.size + 1 + 1]? = some (.cells #[.int .u64 0, .int .u64 0] 24 (0, 0)) := by rw [hw3]; exact at_of (by apply Exists.intro; refine ⟨?_, ?_⟩; (focus ((repeat (first | (with_reducible assumption) | (with_reducible exact alloc_at _ _) | ((with_reducible apply alloc_at'); (simp; done)) | (with_reducible apply alloc_at_lt) | (with_reducible apply heap_drew_at) | (with_reducible apply heap_drewN_at) | (with_reducible apply heap_setCell_same) | ((with_reducible apply heap_set_ne); (first | omega | (dsimp only; omega) | (simp; done) | (simp; omega))) | (with_reducible apply setRow_at) | ((with_reducible apply setRow_ne); (first | omega | (dsimp only; omega) | (simp; done) | (simp; omega))))))); simp)
  clear hw3
  have Ac0 : w3.cell? ⟨w.heap.size, 0, none⟩ = some (.int .u64 x) := (blk_cell A_3 0).trans rfl
  have Ac1 : w3.cell? ⟨w.heap.size, 1, none⟩ = some (.int .u64 y) := (blk_cell A_3 1).trans rfl
  have Acf := blk_free A_3
  have Bc0 : w3.cell? ⟨w.heap.size + 1, 0, none⟩ = some (.int .u64 z) := (blk_cell B_3 0).trans rfl
  have Bc1 : w3.cell? ⟨w.heap.size + 1, 1, none⟩ = some (.int .u64 t) := (blk_cell B_3 1).trans rfl
  have Bcf := blk_free B_3
  have Rc0 : w3.cell? ⟨w.heap.size + 1 + 1, 0, none⟩ = some (.int .u64 0) := (blk_cell R_3 0).trans rfl
  have Rc1 : w3.cell? ⟨w.heap.size + 1 + 1, 1, none⟩ = some (.int .u64 0) := (blk_cell R_3 1).trans rfl
  have Rcf := blk_free R_3
  have Al3 : w.heap.size < w3.heap.size := lt_of_at A_3
  have Bl3 : w.heap.size + 1 < w3.heap.size := lt_of_at B_3
  have Rl3 : w.heap.size + 1 + 1 < w3.heap.size := lt_of_at R_3
  have Ae0 : ∀ lx_ : Lat w3.heap.size w3, lx_.w.cell? ⟨w.heap.size, 0, none⟩ = some (.int .u64 x) := fun lx_ => by rw [lx_.cell _ _ Al3]; exact Ac0
  have Ae1 : ∀ lx_ : Lat w3.heap.size w3, lx_.w.cell? ⟨w.heap.size, 1, none⟩ = some (.int .u64 y) := fun lx_ => by rw [lx_.cell _ _ Al3]; exact Ac1
  have Be0 : ∀ lx_ : Lat w3.heap.size w3, lx_.w.cell? ⟨w.heap.size + 1, 0, none⟩ = some (.int .u64 z) := fun lx_ => by rw [lx_.cell _ _ Bl3]; exact Bc0
  have Be1 : ∀ lx_ : Lat w3.heap.size w3, lx_.w.cell? ⟨w.heap.size + 1, 1, none⟩ = some (.int .u64 t) := fun lx_ => by rw [lx_.cell _ _ Bl3]; exact Bc1
  refine wp_region_lat_tail 10 (by kernel_rfl) (by kernel_rfl) ?_
  simp only [List.take_succ_cons, List.take_zero, List.drop_succ_cons, List.drop_zero]
  repeat (go_big_quiet_step (first | (go_at_call_of 21 (Value.int IntKind.u64 t); exact lat_of (Nat.le_refl _) (H3.out _)) | (go_at_call_of 21 (Value.int IntKind.u64 y); exact lat_of (Nat.le_refl _) (H4.out _))))
  refine wpQuiet_nil ?_
  rintro w4 ⟨x4, hx4⟩
  have hb4 := x4.h
  rw [← hx4] at hb4
  clear hx4 x4 Ae0 Ae1 Be0 Be1
  have hs4 := hb4.size
  try simp only [World.size_alloc, World.size_setCell] at hs4
  have A_4 : w4.heap[w.heap.size]? = some (.cells #[.int .u64 x, .int .u64 y] 24 (0, 0)) := below_at hb4 (by first | omega | (simp; done) | (simp; omega)) (by (repeat (first | (with_reducible assumption) | (with_reducible exact alloc_at _ _) | ((with_reducible apply alloc_at'); (simp; done)) | (with_reducible apply alloc_at_lt) | (with_reducible apply heap_drew_at) | (with_reducible apply heap_drewN_at) | (with_reducible apply heap_setCell_same) | ((with_reducible apply heap_set_ne); (first | omega | (dsimp only; omega) | (simp; done) | (simp; omega))) | (with_reducible apply setRow_at) | ((with_reducible apply setRow_ne); (first | omega | (dsimp only; omega) | (simp; done) | (simp; omega))))))
  have B_4 : w4.heap[w.heap.size + 1]? = some (.cells #[.int .u64 z, .int .u64 t] 24 (0, 0)) := below_at hb4 (by first | omega | (simp; done) | (simp; omega)) (by (repeat (first | (with_reducible assumption) | (with_reducible exact alloc_at _ _) | ((with_reducible apply alloc_at'); (simp; done)) | (with_reducible apply alloc_at_lt) | (with_reducible apply heap_drew_at) | (with_reducible apply heap_drewN_at) | (with_reducible apply heap_setCell_same) | ((with_reducible apply heap_set_ne); (first | omega | (dsimp only; omega) | (simp; done) | (simp; omega))) | (with_reducible apply setRow_at) | ((with_reducible apply setRow_ne); (first | omega | (dsimp only; omega) | (simp; done) | (simp; omega))))))
  have R_4 : w4.heap[w.heap.size + 1 + 1]? = some (.cells #[.int .u64 0, .int .u64 0] 24 (0, 0)) := below_at hb4 (by first | omega | (simp; done) | (simp; omega)) (by (repeat (first | (with_reducible assumption) | (with_reducible exact alloc_at _ _) | ((with_reducible apply alloc_at'); (simp; done)) | (with_reducible apply alloc_at_lt) | (with_reducible apply heap_drew_at) | (with_reducible apply heap_drewN_at) | (with_reducible apply heap_setCell_same) | ((with_reducible apply heap_set_ne); (first | omega | (dsimp only; omega) | (simp; done) | (simp; omega))) | (with_reducible apply setRow_at) | ((with_reducible apply setRow_ne); (first | omega | (dsimp only; omega) | (simp; done) | (simp; omega))))))
  have B4 : Below w.heap.size w w4 := Below.trans (by repeat (first | with_reducible assumption | with_reducible exact Below.refl _ _ | with_reducible refine Below.drew ?_ | with_reducible refine below_drewN ?_ _ | with_reducible refine below_alloc ?_ _ | with_reducible refine Below.alloc ?_ (by first | omega | (simp; done) | (simp; omega)) _ | with_reducible refine Below.setCell ?_ (by first | omega | (simp; done) | (simp; omega)) _ | with_reducible refine below_setRow ?_ (by first | omega | (simp; done) | (simp; omega)) _)) (hb4.mono (by first | omega | (simp; done) | (simp; omega)))
  clear hb4 A_3 B_3 R_3
  clear Ac0 Ac1 Acf
  clear Bc0 Bc1 Bcf
  clear Rc0 Rc1 Rcf
  have Ac0 : w4.cell? ⟨w.heap.size, 0, none⟩ = some (.int .u64 x) := (blk_cell A_4 0).trans rfl
  have Ac1 : w4.cell? ⟨w.heap.size, 1, none⟩ = some (.int .u64 y) := (blk_cell A_4 1).trans rfl
  have Acf := blk_free A_4
  have Bc0 : w4.cell? ⟨w.heap.size + 1, 0, none⟩ = some (.int .u64 z) := (blk_cell B_4 0).trans rfl
  have Bc1 : w4.cell? ⟨w.heap.size + 1, 1, none⟩ = some (.int .u64 t) := (blk_cell B_4 1).trans rfl
  have Bcf := blk_free B_4
  have Rc0 : w4.cell? ⟨w.heap.size + 1 + 1, 0, none⟩ = some (.int .u64 0) := (blk_cell R_4 0).trans rfl
  have Rc1 : w4.cell? ⟨w.heap.size + 1 + 1, 1, none⟩ = some (.int .u64 0) := (blk_cell R_4 1).trans rfl
  have Rcf := blk_free R_4
  have Al4 : w.heap.size < w4.heap.size := by omega
  have Bl4 : w.heap.size + 1 < w4.heap.size := by omega
  have Rl4 : w.heap.size + 1 + 1 < w4.heap.size := by omega
  go_wp2_with fail
  refine (M1.out _).mono ?_
  rintro e w5 ⟨rfl, hb5⟩
  have hs5 := hb5.size
  try simp only [World.size_alloc, World.size_setCell] at hs5
  have A_5 : w5.heap[w.heap.size]? = some (.cells #[.int .u64 p, .int .u64 q] 24 (0, 0)) := below_at hb5 (by first | omega | (simp; done) | (simp; omega)) (at_of (by apply Exists.intro; refine ⟨?_, ?_⟩; (focus ((repeat (first | (with_reducible assumption) | (with_reducible exact alloc_at _ _) | ((with_reducible apply alloc_at'); (simp; done)) | (with_reducible apply alloc_at_lt) | (with_reducible apply heap_drew_at) | (with_reducible apply heap_drewN_at) | (with_reducible apply heap_setCell_same) | ((with_reducible apply heap_set_ne); (first | omega | (dsimp only; omega) | (simp; done) | (simp; omega))) | (with_reducible apply setRow_at) | ((with_reducible apply setRow_ne); (first | omega | (dsimp only; omega) | (simp; done) | (simp; omega))))))); simp))
  have B_5 : w5.heap[w.heap.size + 1]? = some (.cells #[.int .u64 r, .int .u64 s] 24 (0, 0)) := below_at hb5 (by first | omega | (simp; done) | (simp; omega)) (at_of (by apply Exists.intro; refine ⟨?_, ?_⟩; (focus ((repeat (first | (with_reducible assumption) | (with_reducible exact alloc_at _ _) | ((with_reducible apply alloc_at'); (simp; done)) | (with_reducible apply alloc_at_lt) | (with_reducible apply heap_drew_at) | (with_reducible apply heap_drewN_at) | (with_reducible apply heap_setCell_same) | ((with_reducible apply heap_set_ne); (first | omega | (dsimp only; omega) | (simp; done) | (simp; omega))) | (with_reducible apply setRow_at) | ((with_reducible apply setRow_ne); (first | omega | (dsimp only; omega) | (simp; done) | (simp; omega))))))); simp))
  have R_5 : w5.heap[w.heap.size + 1 + 1]? = some (.cells #[.int .u64 0, .int .u64 0] 24 (0, 0)) := below_at hb5 (by first | omega | (simp; done) | (simp; omega)) (by (repeat (first | (with_reducible assumption) | (with_reducible exact alloc_at _ _) | ((with_reducible apply alloc_at'); (simp; done)) | (with_reducible apply alloc_at_lt) | (with_reducible apply heap_drew_at) | (with_reducible apply heap_drewN_at) | (with_reducible apply heap_setCell_same) | ((with_reducible apply heap_set_ne); (first | omega | (dsimp only; omega) | (simp; done) | (simp; omega))) | (with_reducible apply setRow_at) | ((with_reducible apply setRow_ne); (first | omega | (dsimp only; omega) | (simp; done) | (simp; omega))))))
  have B5 : Below w.heap.size w w5 := Below.trans (by repeat (first | with_reducible assumption | with_reducible exact Below.refl _ _ | with_reducible refine Below.drew ?_ | with_reducible refine below_drewN ?_ _ | with_reducible refine below_alloc ?_ _ | with_reducible refine Below.alloc ?_ (by first | omega | (simp; done) | (simp; omega)) _ | with_reducible refine Below.setCell ?_ (by first | omega | (simp; done) | (simp; omega)) _ | with_reducible refine below_setRow ?_ (by first | omega | (simp; done) | (simp; omega)) _)) (hb5.mono (by first | omega | (simp; done) | (simp; omega)))
  clear hb5 A_4 B_4 R_4
  clear Ac0 Ac1 Acf
  clear Bc0 Bc1 Bcf
  clear Rc0 Rc1 Rcf
  have Ac0 : w5.cell? ⟨w.heap.size, 0, none⟩ = some (.int .u64 p) := (blk_cell A_5 0).trans rfl
  have Ac1 : w5.cell? ⟨w.heap.size, 1, none⟩ = some (.int .u64 q) := (blk_cell A_5 1).trans rfl
  have Acf := blk_free A_5
  have Bc0 : w5.cell? ⟨w.heap.size + 1, 0, none⟩ = some (.int .u64 r) := (blk_cell B_5 0).trans rfl
  have Bc1 : w5.cell? ⟨w.heap.size + 1, 1, none⟩ = some (.int .u64 s) := (blk_cell B_5 1).trans rfl
  have Bcf := blk_free B_5
  have Rc0 : w5.cell? ⟨w.heap.size + 1 + 1, 0, none⟩ = some (.int .u64 0) := (blk_cell R_5 0).trans rfl
  have Rc1 : w5.cell? ⟨w.heap.size + 1 + 1, 1, none⟩ = some (.int .u64 0) := (blk_cell R_5 1).trans rfl
  have Rcf := blk_free R_5
  have Al5 : w.heap.size < w5.heap.size := by omega
  have Bl5 : w.heap.size + 1 < w5.heap.size := by omega
  have Rl5 : w.heap.size + 1 + 1 < w5.heap.size := by omega
  go_wp2_with fail
  refine (M2.out _).mono ?_
  rintro e w6 ⟨rfl, hb6⟩
  have hs6 := hb6.size
  try simp only [World.size_alloc, World.size_setCell] at hs6
  have A_6 : w6.heap[w.heap.size]? = some (.cells #[.int .u64 p, .int .u64 q] 24 (0, 0)) := below_at hb6 (by first | omega | (simp; done) | (simp; omega)) (at_of (by apply Exists.intro; refine ⟨?_, ?_⟩; (focus ((repeat (first | (with_reducible assumption) | (with_reducible exact alloc_at _ _) | ((with_reducible apply alloc_at'); (simp; done)) | (with_reducible apply alloc_at_lt) | (with_reducible apply heap_drew_at) | (with_reducible apply heap_drewN_at) | (with_reducible apply heap_setCell_same) | ((with_reducible apply heap_set_ne); (first | omega | (dsimp only; omega) | (simp; done) | (simp; omega))) | (with_reducible apply setRow_at) | ((with_reducible apply setRow_ne); (first | omega | (dsimp only; omega) | (simp; done) | (simp; omega))))))); simp))
  have B_6 : w6.heap[w.heap.size + 1]? = some (.cells #[.int .u64 r, .int .u64 s] 24 (0, 0)) := below_at hb6 (by first | omega | (simp; done) | (simp; omega)) (at_of (by apply Exists.intro; refine ⟨?_, ?_⟩; (focus ((repeat (first | (with_reducible assumption) | (with_reducible exact alloc_at _ _) | ((with_reducible apply alloc_at'); (simp; done)) | (with_reducible apply alloc_at_lt) | (with_reducible apply heap_drew_at) | (with_reducible apply heap_drewN_at) | (with_reducible apply heap_setCell_same) | ((with_reducible apply heap_set_ne); (first | omega | (dsimp only; omega) | (simp; done) | (simp; omega))) | (with_reducible apply setRow_at) | ((with_reducible apply setRow_ne); (first | omega | (dsimp only; omega) | (simp; done) | (simp; omega))))))); simp))
  have R_6 : w6.heap[w.heap.size + 1 + 1]? = some (.cells #[.int .u64 0, .int .u64 0] 24 (0, 0)) := below_at hb6 (by first | omega | (simp; done) | (simp; omega)) (by (repeat (first | (with_reducible assumption) | (with_reducible exact alloc_at _ _) | ((with_reducible apply alloc_at'); (simp; done)) | (with_reducible apply alloc_at_lt) | (with_reducible apply heap_drew_at) | (with_reducible apply heap_drewN_at) | (with_reducible apply heap_setCell_same) | ((with_reducible apply heap_set_ne); (first | omega | (dsimp only; omega) | (simp; done) | (simp; omega))) | (with_reducible apply setRow_at) | ((with_reducible apply setRow_ne); (first | omega | (dsimp only; omega) | (simp; done) | (simp; omega))))))
  have B6 : Below w.heap.size w w6 := Below.trans (by repeat (first | with_reducible assumption | with_reducible exact Below.refl _ _ | with_reducible refine Below.drew ?_ | with_reducible refine below_drewN ?_ _ | with_reducible refine below_alloc ?_ _ | with_reducible refine Below.alloc ?_ (by first | omega | (simp; done) | (simp; omega)) _ | with_reducible refine Below.setCell ?_ (by first | omega | (simp; done) | (simp; omega)) _ | with_reducible refine below_setRow ?_ (by first | omega | (simp; done) | (simp; omega)) _)) (hb6.mono (by first | omega | (simp; done) | (simp; omega)))
  clear hb6 A_5 B_5 R_5
  clear Ac0 Ac1 Acf
  clear Bc0 Bc1 Bcf
  clear Rc0 Rc1 Rcf
  have Ac0 : w6.cell? ⟨w.heap.size, 0, none⟩ = some (.int .u64 p) := (blk_cell A_6 0).trans rfl
  have Ac1 : w6.cell? ⟨w.heap.size, 1, none⟩ = some (.int .u64 q) := (blk_cell A_6 1).trans rfl
  have Acf := blk_free A_6
  have Bc0 : w6.cell? ⟨w.heap.size + 1, 0, none⟩ = some (.int .u64 r) := (blk_cell B_6 0).trans rfl
  have Bc1 : w6.cell? ⟨w.heap.size + 1, 1, none⟩ = some (.int .u64 s) := (blk_cell B_6 1).trans rfl
  have Bcf := blk_free B_6
  have Rc0 : w6.cell? ⟨w.heap.size + 1 + 1, 0, none⟩ = some (.int .u64 0) := (blk_cell R_6 0).trans rfl
  have Rc1 : w6.cell? ⟨w.heap.size + 1 + 1, 1, none⟩ = some (.int .u64 0) := (blk_cell R_6 1).trans rfl
  have Rcf := blk_free R_6
  have Al6 : w.heap.size < w6.heap.size := by omega
  have Bl6 : w.heap.size + 1 < w6.heap.size := by omega
  have Rl6 : w.heap.size + 1 + 1 < w6.heap.size := by omega
  go_wp2
  refine ret_row2 rfl (w.heap.size + 1 + 1) #[.int .u64 0, .int .u64 0] 24 _ rfl Try.underlying24 rfl infoR rfl (by apply Exists.intro; refine ⟨?_, ?_⟩; (focus ((repeat (first | (with_reducible assumption) | (with_reducible exact alloc_at _ _) | ((with_reducible apply alloc_at'); (simp; done)) | (with_reducible apply alloc_at_lt) | (with_reducible apply heap_drew_at) | (with_reducible apply heap_drewN_at) | (with_reducible apply heap_setCell_same) | ((with_reducible apply heap_set_ne); (first | omega | (dsimp only; omega) | (simp; done) | (simp; omega))) | (with_reducible apply setRow_at) | ((with_reducible apply setRow_ne); (first | omega | (dsimp only; omega) | (simp; done) | (simp; omega))))))); simp) ⟨rfl, (by repeat (first | with_reducible assumption | with_reducible exact Below.refl _ _ | with_reducible refine Below.drew ?_ | with_reducible refine below_drewN ?_ _ | with_reducible refine below_alloc ?_ _ | with_reducible refine Below.alloc ?_ (by first | omega | (simp; done) | (simp; omega)) _ | with_reducible refine Below.setCell ?_ (by first | omega | (simp; done) | (simp; omega)) _ | with_reducible refine below_setRow ?_ (by first | omega | (simp; done) | (simp; omega)) _))⟩
set_option maxRecDepth 100000 in
set_option maxHeartbeats 4000000 in
theorem mul_w (an ad bn bd x y z t p q r s h n l d : Int) (w : World) (hn : (h != 0) = false) (ho : (l != 0) = false) (hp : (ad == 0) = false) (hq : (bd == 0) = false) (H1 : Hid (∀ W, Calls Try.prog 21 #[.int .u64 an, .int .u64 ad] W fun e w' => e = .returned (.agg #[.int .u64 x, .int .u64 y]) ∧ Below W.heap.size W w')) (H2 : Hid (∀ W, Calls Try.prog 21 #[.int .u64 bn, .int .u64 bd] W fun e w' => e = .returned (.agg #[.int .u64 z, .int .u64 t]) ∧ Below W.heap.size W w'))
    (H3 : Hid (∀ W, Calls Try.prog 21 #[.int .u64 x, .int .u64 t] W fun e w' => e = .returned (.agg #[.int .u64 p, .int .u64 q]) ∧ Below W.heap.size W w')) (H4 : Hid (∀ W, Calls Try.prog 21 #[.int .u64 z, .int .u64 y] W fun e w' => e = .returned (.agg #[.int .u64 r, .int .u64 s]) ∧ Below W.heap.size W w')) (M1 : Hid (∀ W, Calls Try.prog 22 #[.int .u64 p, .int .u64 r] W fun e w' => e = .returned (.tuple #[.int .u64 h, .int .u64 n]) ∧ Below W.heap.size W w')) (M2 : Hid (∀ W, Calls Try.prog 22 #[.int .u64 q, .int .u64 s] W fun e w' => e = .returned (.tuple #[.int .u64 l, .int .u64 d]) ∧ Below W.heap.size W w')) (HL : Hid (∀ W, Calls Try.prog 21 #[.int .u64 n, .int .u64 d] W fun e w' => e = .returned (.agg #[.int .u64 n, .int .u64 d]) ∧ Below W.heap.size W w')) :
    Calls Try.prog 16 #[.agg #[.int .u64 an, .int .u64 ad], .agg #[.int .u64 bn, .int .u64 bd]] w fun e w' => e = .returned (.tuple #[.agg #[.int .u64 n, .int .u64 d], .int .i64 0]) ∧ Below w.heap.size w w' := by
  go_enter Try.func16, Try.ntmps16
  go_wp2_with fail
  obtain ⟨w1, hw1⟩ : ∃ wx_ : World, wx_ = ((w.alloc (.cells #[.int .u64 an, .int .u64 ad] 24)).alloc (.cells #[.int .u64 bn, .int .u64 bd] 24)).alloc (.cells #[.int .u64 0, .int .u64 0] 24) := ⟨_, rfl⟩
  rw [← hw1]
  have B1 : Below w.heap.size w w1 := by rw [hw1]; exact (by repeat (first | with_reducible assumption | with_reducible exact Below.refl _ _ | with_reducible refine Below.drew ?_ | with_reducible refine below_drewN ?_ _ | with_reducible refine below_alloc ?_ _ | with_reducible refine Below.alloc ?_ (by first | omega | (simp; done) | (simp; omega)) _ | with_reducible refine Below.setCell ?_ (by first | omega | (simp; done) | (simp; omega)) _ | with_reducible refine below_setRow ?_ (by first | omega | (simp; done) | (simp; omega)) _))
  have A_1 : w1.heap[w.heap.size]? = some (.cells #[.int .u64 an, .int .u64 ad] 24 (0, 0)) := by rw [hw1]; exact at_of (by apply Exists.intro; refine ⟨?_, ?_⟩; (focus ((repeat (first | (with_reducible assumption) | (with_reducible exact alloc_at _ _) | ((with_reducible apply alloc_at'); (simp; done)) | (with_reducible apply alloc_at_lt) | (with_reducible apply heap_drew_at) | (with_reducible apply heap_drewN_at) | (with_reducible apply heap_setCell_same) | ((with_reducible apply heap_set_ne); (first | omega | (dsimp only; omega) | (simp; done) | (simp; omega))) | (with_reducible apply setRow_at) | ((with_reducible apply setRow_ne); (first | omega | (dsimp only; omega) | (simp; done) | (simp; omega))))))); simp)
  have B_1 : w1.heap[w.heap.size + 1]? = some (.cells #[.int .u64 bn, .int .u64 bd] 24 (0, 0)) := by rw [hw1]; exact at_of (by apply Exists.intro; refine ⟨?_, ?_⟩; (focus ((repeat (first | (with_reducible assumption) | (with_reducible exact alloc_at _ _) | ((with_reducible apply alloc_at'); (simp; done)) | (with_reducible apply alloc_at_lt) | (with_reducible apply heap_drew_at) | (with_reducible apply heap_drewN_at) | (with_reducible apply heap_setCell_same) | ((with_reducible apply heap_set_ne); (first | omega | (dsimp only; omega) | (simp; done) | (simp; omega))) | (with_reducible apply setRow_at) | ((with_reducible apply setRow_ne); (first | omega | (dsimp only; omega) | (simp; done) | (simp; omega))))))); simp)
  have R_1 : w1.heap[w.heap.size + 1 + 1]? = some (.cells #[.int .u64 0, .int .u64 0] 24 (0, 0)) := by rw [hw1]; exact at_of (by apply Exists.intro; refine ⟨?_, ?_⟩; (focus ((repeat (first | (with_reducible assumption) | (with_reducible exact alloc_at _ _) | ((with_reducible apply alloc_at'); (simp; done)) | (with_reducible apply alloc_at_lt) | (with_reducible apply heap_drew_at) | (with_reducible apply heap_drewN_at) | (with_reducible apply heap_setCell_same) | ((with_reducible apply heap_set_ne); (first | omega | (dsimp only; omega) | (simp; done) | (simp; omega))) | (with_reducible apply setRow_at) | ((with_reducible apply setRow_ne); (first | omega | (dsimp only; omega) | (simp; done) | (simp; omega))))))); simp)
  clear hw1
  have Ac0 : w1.cell? ⟨w.heap.size, 0, none⟩ = some (.int .u64 an) := (blk_cell A_1 0).trans rfl
  have Ac1 : w1.cell? ⟨w.heap.size, 1, none⟩ = some (.int .u64 ad) := (blk_cell A_1 1).trans rfl
  have Acf := blk_free A_1
  have Bc0 : w1.cell? ⟨w.heap.size + 1, 0, none⟩ = some (.int .u64 bn) := (blk_cell B_1 0).trans rfl
  have Bc1 : w1.cell? ⟨w.heap.size + 1, 1, none⟩ = some (.int .u64 bd) := (blk_cell B_1 1).trans rfl
  have Bcf := blk_free B_1
  have Rc0 : w1.cell? ⟨w.heap.size + 1 + 1, 0, none⟩ = some (.int .u64 0) := (blk_cell R_1 0).trans rfl
  have Rc1 : w1.cell? ⟨w.heap.size + 1 + 1, 1, none⟩ = some (.int .u64 0) := (blk_cell R_1 1).trans rfl
  have Rcf := blk_free R_1
  have Al1 : w.heap.size < w1.heap.size := lt_of_at A_1
  have Bl1 : w.heap.size + 1 < w1.heap.size := lt_of_at B_1
  have Rl1 : w.heap.size + 1 + 1 < w1.heap.size := lt_of_at R_1
  have Ae0 : ∀ lx_ : Lat w1.heap.size w1, lx_.w.cell? ⟨w.heap.size, 0, none⟩ = some (.int .u64 an) := fun lx_ => by rw [lx_.cell _ _ Al1]; exact Ac0
  have Ae1 : ∀ lx_ : Lat w1.heap.size w1, lx_.w.cell? ⟨w.heap.size, 1, none⟩ = some (.int .u64 ad) := fun lx_ => by rw [lx_.cell _ _ Al1]; exact Ac1
  have Be0 : ∀ lx_ : Lat w1.heap.size w1, lx_.w.cell? ⟨w.heap.size + 1, 0, none⟩ = some (.int .u64 bn) := fun lx_ => by rw [lx_.cell _ _ Bl1]; exact Bc0
  have Be1 : ∀ lx_ : Lat w1.heap.size w1, lx_.w.cell? ⟨w.heap.size + 1, 1, none⟩ = some (.int .u64 bd) := fun lx_ => by rw [lx_.cell _ _ Bl1]; exact Bc1
  refine wp_region_lat_tail 10 (by kernel_rfl) (by kernel_rfl) ?_
  simp only [List.take_succ_cons, List.take_zero, List.drop_succ_cons, List.drop_zero]
  repeat (go_big_quiet_step (first | (go_at_call_of 21 (Value.int IntKind.u64 an); exact lat_of (Nat.le_refl _) (H1.out _)) | (go_at_call_of 21 (Value.int IntKind.u64 bn); exact lat_of (Nat.le_refl _) (H2.out _))))
  refine wpQuiet_nil ?_
  rintro w2 ⟨x2, hx2⟩
  have hb2 := x2.h
  rw [← hx2] at hb2
  clear hx2 x2 Ae0 Ae1 Be0 Be1
  have hs2 := hb2.size
  try simp only [World.size_alloc, World.size_setCell] at hs2
  have A_2 : w2.heap[w.heap.size]? = some (.cells #[.int .u64 an, .int .u64 ad] 24 (0, 0)) := below_at hb2 (by first | omega | (simp; done) | (simp; omega)) (by (repeat (first | (with_reducible assumption) | (with_reducible exact alloc_at _ _) | ((with_reducible apply alloc_at'); (simp; done)) | (with_reducible apply alloc_at_lt) | (with_reducible apply heap_drew_at) | (with_reducible apply heap_drewN_at) | (with_reducible apply heap_setCell_same) | ((with_reducible apply heap_set_ne); (first | omega | (dsimp only; omega) | (simp; done) | (simp; omega))) | (with_reducible apply setRow_at) | ((with_reducible apply setRow_ne); (first | omega | (dsimp only; omega) | (simp; done) | (simp; omega))))))
  have B_2 : w2.heap[w.heap.size + 1]? = some (.cells #[.int .u64 bn, .int .u64 bd] 24 (0, 0)) := below_at hb2 (by first | omega | (simp; done) | (simp; omega)) (by (repeat (first | (with_reducible assumption) | (with_reducible exact alloc_at _ _) | ((with_reducible apply alloc_at'); (simp; done)) | (with_reducible apply alloc_at_lt) | (with_reducible apply heap_drew_at) | (with_reducible apply heap_drewN_at) | (with_reducible apply heap_setCell_same) | ((with_reducible apply heap_set_ne); (first | omega | (dsimp only; omega) | (simp; done) | (simp; omega))) | (with_reducible apply setRow_at) | ((with_reducible apply setRow_ne); (first | omega | (dsimp only; omega) | (simp; done) | (simp; omega))))))
  have R_2 : w2.heap[w.heap.size + 1 + 1]? = some (.cells #[.int .u64 0, .int .u64 0] 24 (0, 0)) := below_at hb2 (by first | omega | (simp; done) | (simp; omega)) (by (repeat (first | (with_reducible assumption) | (with_reducible exact alloc_at _ _) | ((with_reducible apply alloc_at'); (simp; done)) | (with_reducible apply alloc_at_lt) | (with_reducible apply heap_drew_at) | (with_reducible apply heap_drewN_at) | (with_reducible apply heap_setCell_same) | ((with_reducible apply heap_set_ne); (first | omega | (dsimp only; omega) | (simp; done) | (simp; omega))) | (with_reducible apply setRow_at) | ((with_reducible apply setRow_ne); (first | omega | (dsimp only; omega) | (simp; done) | (simp; omega))))))
  have B2 : Below w.heap.size w w2 := Below.trans (by repeat (first | with_reducible assumption | with_reducible exact Below.refl _ _ | with_reducible refine Below.drew ?_ | with_reducible refine below_drewN ?_ _ | with_reducible refine below_alloc ?_ _ | with_reducible refine Below.alloc ?_ (by first | omega | (simp; done) | (simp; omega)) _ | with_reducible refine Below.setCell ?_ (by first | omega | (simp; done) | (simp; omega)) _ | with_reducible refine below_setRow ?_ (by first | omega | (simp; done) | (simp; omega)) _)) (hb2.mono (by first | omega | (simp; done) | (simp; omega)))
  clear hb2 A_1 B_1 R_1
  clear Ac0 Ac1 Acf
  clear Bc0 Bc1 Bcf
  clear Rc0 Rc1 Rcf
  have Ac0 : w2.cell? ⟨w.heap.size, 0, none⟩ = some (.int .u64 an) := (blk_cell A_2 0).trans rfl
  have Ac1 : w2.cell? ⟨w.heap.size, 1, none⟩ = some (.int .u64 ad) := (blk_cell A_2 1).trans rfl
  have Acf := blk_free A_2
  have Bc0 : w2.cell? ⟨w.heap.size + 1, 0, none⟩ = some (.int .u64 bn) := (blk_cell B_2 0).trans rfl
  have Bc1 : w2.cell? ⟨w.heap.size + 1, 1, none⟩ = some (.int .u64 bd) := (blk_cell B_2 1).trans rfl
  have Bcf := blk_free B_2
  have Rc0 : w2.cell? ⟨w.heap.size + 1 + 1, 0, none⟩ = some (.int .u64 0) := (blk_cell R_2 0).trans rfl
  have Rc1 : w2.cell? ⟨w.heap.size + 1 + 1, 1, none⟩ = some (.int .u64 0) := (blk_cell R_2 1).trans rfl
  have Rcf := blk_free R_2
  have Al2 : w.heap.size < w2.heap.size := by omega
  have Bl2 : w.heap.size + 1 < w2.heap.size := by omega
  have Rl2 : w.heap.size + 1 + 1 < w2.heap.size := by omega
  go_wp2_with fail
  obtain ⟨w3, hw3⟩ : ∃ wx_ : World, wx_ = ((((w2.setCell ⟨w.heap.size, 0, none⟩ (.int .u64 x)).setCell ⟨w.heap.size, 1, none⟩ (.int .u64 y)).setCell ⟨w.heap.size + 1, 0, none⟩ (.int .u64 z)).setCell ⟨w.heap.size + 1, 1, none⟩ (.int .u64 t)) := ⟨_, rfl⟩
  rw [← hw3]
  have B3 : Below w.heap.size w w3 := by rw [hw3]; exact (by repeat (first | with_reducible assumption | with_reducible exact Below.refl _ _ | with_reducible refine Below.drew ?_ | with_reducible refine below_drewN ?_ _ | with_reducible refine below_alloc ?_ _ | with_reducible refine Below.alloc ?_ (by first | omega | (simp; done) | (simp; omega)) _ | with_reducible refine Below.setCell ?_ (by first | omega | (simp; done) | (simp; omega)) _ | with_reducible refine below_setRow ?_ (by first | omega | (simp; done) | (simp; omega)) _))
  have A_3 : w3.heap[w.heap.size]? = some (.cells #[.int .u64 x, .int .u64 y] 24 (0, 0)) := by rw [hw3]; exact at_of (by apply Exists.intro; refine ⟨?_, ?_⟩; (focus ((repeat (first | (with_reducible assumption) | (with_reducible exact alloc_at _ _) | ((with_reducible apply alloc_at'); (simp; done)) | (with_reducible apply alloc_at_lt) | (with_reducible apply heap_drew_at) | (with_reducible apply heap_drewN_at) | (with_reducible apply heap_setCell_same) | ((with_reducible apply heap_set_ne); (first | omega | (dsimp only; omega) | (simp; done) | (simp; omega))) | (with_reducible apply setRow_at) | ((with_reducible apply setRow_ne); (first | omega | (dsimp only; omega) | (simp; done) | (simp; omega))))))); simp)
  have B_3 : w3.heap[w.heap.size + 1]? = some (.cells #[.int .u64 z, .int .u64 t] 24 (0, 0)) := by rw [hw3]; exact at_of (by apply Exists.intro; refine ⟨?_, ?_⟩; (focus ((repeat (first | (with_reducible assumption) | (with_reducible exact alloc_at _ _) | ((with_reducible apply alloc_at'); (simp; done)) | (with_reducible apply alloc_at_lt) | (with_reducible apply heap_drew_at) | (with_reducible apply heap_drewN_at) | (with_reducible apply heap_setCell_same) | ((with_reducible apply heap_set_ne); (first | omega | (dsimp only; omega) | (simp; done) | (simp; omega))) | (with_reducible apply setRow_at) | ((with_reducible apply setRow_ne); (first | omega | (dsimp only; omega) | (simp; done) | (simp; omega))))))); simp)
  have R_3 : w3.heap[w.heap.size + 1 + 1]? = some (.cells #[.int .u64 0, .int .u64 0] 24 (0, 0)) := by rw [hw3]; exact at_of (by apply Exists.intro; refine ⟨?_, ?_⟩; (focus ((repeat (first | (with_reducible assumption) | (with_reducible exact alloc_at _ _) | ((with_reducible apply alloc_at'); (simp; done)) | (with_reducible apply alloc_at_lt) | (with_reducible apply heap_drew_at) | (with_reducible apply heap_drewN_at) | (with_reducible apply heap_setCell_same) | ((with_reducible apply heap_set_ne); (first | omega | (dsimp only; omega) | (simp; done) | (simp; omega))) | (with_reducible apply setRow_at) | ((with_reducible apply setRow_ne); (first | omega | (dsimp only; omega) | (simp; done) | (simp; omega))))))); simp)
  clear hw3
  have Ac0 : w3.cell? ⟨w.heap.size, 0, none⟩ = some (.int .u64 x) := (blk_cell A_3 0).trans rfl
  have Ac1 : w3.cell? ⟨w.heap.size, 1, none⟩ = some (.int .u64 y) := (blk_cell A_3 1).trans rfl
  have Acf := blk_free A_3
  have Bc0 : w3.cell? ⟨w.heap.size + 1, 0, none⟩ = some (.int .u64 z) := (blk_cell B_3 0).trans rfl
  have Bc1 : w3.cell? ⟨w.heap.size + 1, 1, none⟩ = some (.int .u64 t) := (blk_cell B_3 1).trans rfl
  have Bcf := blk_free B_3
  have Rc0 : w3.cell? ⟨w.heap.size + 1 + 1, 0, none⟩ = some (.int .u64 0) := (blk_cell R_3 0).trans rfl
  have Rc1 : w3.cell? ⟨w.heap.size + 1 + 1, 1, none⟩ = some (.int .u64 0) := (blk_cell R_3 1).trans rfl
  have Rcf := blk_free R_3
  have Al3 : w.heap.size < w3.heap.size := lt_of_at A_3
  have Bl3 : w.heap.size + 1 < w3.heap.size := lt_of_at B_3
  have Rl3 : w.heap.size + 1 + 1 < w3.heap.size := lt_of_at R_3
  have Ae0 : ∀ lx_ : Lat w3.heap.size w3, lx_.w.cell? ⟨w.heap.size, 0, none⟩ = some (.int .u64 x) := fun lx_ => by rw [lx_.cell _ _ Al3]; exact Ac0
  have Ae1 : ∀ lx_ : Lat w3.heap.size w3, lx_.w.cell? ⟨w.heap.size, 1, none⟩ = some (.int .u64 y) := fun lx_ => by rw [lx_.cell _ _ Al3]; exact Ac1
  have Be0 : ∀ lx_ : Lat w3.heap.size w3, lx_.w.cell? ⟨w.heap.size + 1, 0, none⟩ = some (.int .u64 z) := fun lx_ => by rw [lx_.cell _ _ Bl3]; exact Bc0
  have Be1 : ∀ lx_ : Lat w3.heap.size w3, lx_.w.cell? ⟨w.heap.size + 1, 1, none⟩ = some (.int .u64 t) := fun lx_ => by rw [lx_.cell _ _ Bl3]; exact Bc1
  refine wp_region_lat_tail 10 (by kernel_rfl) (by kernel_rfl) ?_
  simp only [List.take_succ_cons, List.take_zero, List.drop_succ_cons, List.drop_zero]
  repeat (go_big_quiet_step (first | (go_at_call_of 21 (Value.int IntKind.u64 t); exact lat_of (Nat.le_refl _) (H3.out _)) | (go_at_call_of 21 (Value.int IntKind.u64 y); exact lat_of (Nat.le_refl _) (H4.out _))))
  refine wpQuiet_nil ?_
  rintro w4 ⟨x4, hx4⟩
  have hb4 := x4.h
  rw [← hx4] at hb4
  clear hx4 x4 Ae0 Ae1 Be0 Be1
  have hs4 := hb4.size
  try simp only [World.size_alloc, World.size_setCell] at hs4
  have A_4 : w4.heap[w.heap.size]? = some (.cells #[.int .u64 x, .int .u64 y] 24 (0, 0)) := below_at hb4 (by first | omega | (simp; done) | (simp; omega)) (by (repeat (first | (with_reducible assumption) | (with_reducible exact alloc_at _ _) | ((with_reducible apply alloc_at'); (simp; done)) | (with_reducible apply alloc_at_lt) | (with_reducible apply heap_drew_at) | (with_reducible apply heap_drewN_at) | (with_reducible apply heap_setCell_same) | ((with_reducible apply heap_set_ne); (first | omega | (dsimp only; omega) | (simp; done) | (simp; omega))) | (with_reducible apply setRow_at) | ((with_reducible apply setRow_ne); (first | omega | (dsimp only; omega) | (simp; done) | (simp; omega))))))
  have B_4 : w4.heap[w.heap.size + 1]? = some (.cells #[.int .u64 z, .int .u64 t] 24 (0, 0)) := below_at hb4 (by first | omega | (simp; done) | (simp; omega)) (by (repeat (first | (with_reducible assumption) | (with_reducible exact alloc_at _ _) | ((with_reducible apply alloc_at'); (simp; done)) | (with_reducible apply alloc_at_lt) | (with_reducible apply heap_drew_at) | (with_reducible apply heap_drewN_at) | (with_reducible apply heap_setCell_same) | ((with_reducible apply heap_set_ne); (first | omega | (dsimp only; omega) | (simp; done) | (simp; omega))) | (with_reducible apply setRow_at) | ((with_reducible apply setRow_ne); (first | omega | (dsimp only; omega) | (simp; done) | (simp; omega))))))
  have R_4 : w4.heap[w.heap.size + 1 + 1]? = some (.cells #[.int .u64 0, .int .u64 0] 24 (0, 0)) := below_at hb4 (by first | omega | (simp; done) | (simp; omega)) (by (repeat (first | (with_reducible assumption) | (with_reducible exact alloc_at _ _) | ((with_reducible apply alloc_at'); (simp; done)) | (with_reducible apply alloc_at_lt) | (with_reducible apply heap_drew_at) | (with_reducible apply heap_drewN_at) | (with_reducible apply heap_setCell_same) | ((with_reducible apply heap_set_ne); (first | omega | (dsimp only; omega) | (simp; done) | (simp; omega))) | (with_reducible apply setRow_at) | ((with_reducible apply setRow_ne); (first | omega | (dsimp only; omega) | (simp; done) | (simp; omega))))))
  have B4 : Below w.heap.size w w4 := Below.trans (by repeat (first | with_reducible assumption | with_reducible exact Below.refl _ _ | with_reducible refine Below.drew ?_ | with_reducible refine below_drewN ?_ _ | with_reducible refine below_alloc ?_ _ | with_reducible refine Below.alloc ?_ (by first | omega | (simp; done) | (simp; omega)) _ | with_reducible refine Below.setCell ?_ (by first | omega | (simp; done) | (simp; omega)) _ | with_reducible refine below_setRow ?_ (by first | omega | (simp; done) | (simp; omega)) _)) (hb4.mono (by first | omega | (simp; done) | (simp; omega)))
  clear hb4 A_3 B_3 R_3
  clear Ac0 Ac1 Acf
  clear Bc0 Bc1 Bcf
  clear Rc0 Rc1 Rcf
  have Ac0 : w4.cell? ⟨w.heap.size, 0, none⟩ = some (.int .u64 x) := (blk_cell A_4 0).trans rfl
  have Ac1 : w4.cell? ⟨w.heap.size, 1, none⟩ = some (.int .u64 y) := (blk_cell A_4 1).trans rfl
  have Acf := blk_free A_4
  have Bc0 : w4.cell? ⟨w.heap.size + 1, 0, none⟩ = some (.int .u64 z) := (blk_cell B_4 0).trans rfl
  have Bc1 : w4.cell? ⟨w.heap.size + 1, 1, none⟩ = some (.int .u64 t) := (blk_cell B_4 1).trans rfl
  have Bcf := blk_free B_4
  have Rc0 : w4.cell? ⟨w.heap.size + 1 + 1, 0, none⟩ = some (.int .u64 0) := (blk_cell R_4 0).trans rfl
  have Rc1 : w4.cell? ⟨w.heap.size + 1 + 1, 1, none⟩ = some (.int .u64 0) := (blk_cell R_4 1).trans rfl
  have Rcf := blk_free R_4
  have Al4 : w.heap.size < w4.heap.size := by omega
  have Bl4 : w.heap.size + 1 < w4.heap.size := by omega
  have Rl4 : w.heap.size + 1 + 1 < w4.heap.size := by omega
  go_wp2_with fail
  refine (M1.out _).mono ?_
  rintro e w5 ⟨rfl, hb5⟩
  have hs5 := hb5.size
  try simp only [World.size_alloc, World.size_setCell] at hs5
  have A_5 : w5.heap[w.heap.size]? = some (.cells #[.int .u64 p, .int .u64 q] 24 (0, 0)) := below_at hb5 (by first | omega | (simp; done) | (simp; omega)) (at_of (by apply Exists.intro; refine ⟨?_, ?_⟩; (focus ((repeat (first | (with_reducible assumption) | (with_reducible exact alloc_at _ _) | ((with_reducible apply alloc_at'); (simp; done)) | (with_reducible apply alloc_at_lt) | (with_reducible apply heap_drew_at) | (with_reducible apply heap_drewN_at) | (with_reducible apply heap_setCell_same) | ((with_reducible apply heap_set_ne); (first | omega | (dsimp only; omega) | (simp; done) | (simp; omega))) | (with_reducible apply setRow_at) | ((with_reducible apply setRow_ne); (first | omega | (dsimp only; omega) | (simp; done) | (simp; omega))))))); simp))
  have B_5 : w5.heap[w.heap.size + 1]? = some (.cells #[.int .u64 r, .int .u64 s] 24 (0, 0)) := below_at hb5 (by first | omega | (simp; done) | (simp; omega)) (at_of (by apply Exists.intro; refine ⟨?_, ?_⟩; (focus ((repeat (first | (with_reducible assumption) | (with_reducible exact alloc_at _ _) | ((with_reducible apply alloc_at'); (simp; done)) | (with_reducible apply alloc_at_lt) | (with_reducible apply heap_drew_at) | (with_reducible apply heap_drewN_at) | (with_reducible apply heap_setCell_same) | ((with_reducible apply heap_set_ne); (first | omega | (dsimp only; omega) | (simp; done) | (simp; omega))) | (with_reducible apply setRow_at) | ((with_reducible apply setRow_ne); (first | omega | (dsimp only; omega) | (simp; done) | (simp; omega))))))); simp))
  have R_5 : w5.heap[w.heap.size + 1 + 1]? = some (.cells #[.int .u64 0, .int .u64 0] 24 (0, 0)) := below_at hb5 (by first | omega | (simp; done) | (simp; omega)) (by (repeat (first | (with_reducible assumption) | (with_reducible exact alloc_at _ _) | ((with_reducible apply alloc_at'); (simp; done)) | (with_reducible apply alloc_at_lt) | (with_reducible apply heap_drew_at) | (with_reducible apply heap_drewN_at) | (with_reducible apply heap_setCell_same) | ((with_reducible apply heap_set_ne); (first | omega | (dsimp only; omega) | (simp; done) | (simp; omega))) | (with_reducible apply setRow_at) | ((with_reducible apply setRow_ne); (first | omega | (dsimp only; omega) | (simp; done) | (simp; omega))))))
  have B5 : Below w.heap.size w w5 := Below.trans (by repeat (first | with_reducible assumption | with_reducible exact Below.refl _ _ | with_reducible refine Below.drew ?_ | with_reducible refine below_drewN ?_ _ | with_reducible refine below_alloc ?_ _ | with_reducible refine Below.alloc ?_ (by first | omega | (simp; done) | (simp; omega)) _ | with_reducible refine Below.setCell ?_ (by first | omega | (simp; done) | (simp; omega)) _ | with_reducible refine below_setRow ?_ (by first | omega | (simp; done) | (simp; omega)) _)) (hb5.mono (by first | omega | (simp; done) | (simp; omega)))
  clear hb5 A_4 B_4 R_4
  clear Ac0 Ac1 Acf
  clear Bc0 Bc1 Bcf
  clear Rc0 Rc1 Rcf
  have Ac0 : w5.cell? ⟨w.heap.size, 0, none⟩ = some (.int .u64 p) := (blk_cell A_5 0).trans rfl
  have Ac1 : w5.cell? ⟨w.heap.size, 1, none⟩ = some (.int .u64 q) := (blk_cell A_5 1).trans rfl
  have Acf := blk_free A_5
  have Bc0 : w5.cell? ⟨w.heap.size + 1, 0, none⟩ = some (.int .u64 r) := (blk_cell B_5 0).trans rfl
  have Bc1 : w5.cell? ⟨w.heap.size + 1, 1, none⟩ = some (.int .u64 s) := (blk_cell B_5 1).trans rfl
  have Bcf := blk_free B_5
  have Rc0 : w5.cell? ⟨w.heap.size + 1 + 1, 0, none⟩ = some (.int .u64 0) := (blk_cell R_5 0).trans rfl
  have Rc1 : w5.cell? ⟨w.heap.size + 1 + 1, 1, none⟩ = some (.int .u64 0) := (blk_cell R_5 1).trans rfl
  have Rcf := blk_free R_5
  have Al5 : w.heap.size < w5.heap.size := by omega
  have Bl5 : w.heap.size + 1 < w5.heap.size := by omega
  have Rl5 : w.heap.size + 1 + 1 < w5.heap.size := by omega
  go_wp2_with fail
  refine (M2.out _).mono ?_
  rintro e w6 ⟨rfl, hb6⟩
  have hs6 := hb6.size
  try simp only [World.size_alloc, World.size_setCell] at hs6
  have A_6 : w6.heap[w.heap.size]? = some (.cells #[.int .u64 p, .int .u64 q] 24 (0, 0)) := below_at hb6 (by first | omega | (simp; done) | (simp; omega)) (at_of (by apply Exists.intro; refine ⟨?_, ?_⟩; (focus ((repeat (first | (with_reducible assumption) | (with_reducible exact alloc_at _ _) | ((with_reducible apply alloc_at'); (simp; done)) | (with_reducible apply alloc_at_lt) | (with_reducible apply heap_drew_at) | (with_reducible apply heap_drewN_at) | (with_reducible apply heap_setCell_same) | ((with_reducible apply heap_set_ne); (first | omega | (dsimp only; omega) | (simp; done) | (simp; omega))) | (with_reducible apply setRow_at) | ((with_reducible apply setRow_ne); (first | omega | (dsimp only; omega) | (simp; done) | (simp; omega))))))); simp))
  have B_6 : w6.heap[w.heap.size + 1]? = some (.cells #[.int .u64 r, .int .u64 s] 24 (0, 0)) := below_at hb6 (by first | omega | (simp; done) | (simp; omega)) (at_of (by apply Exists.intro; refine ⟨?_, ?_⟩; (focus ((repeat (first | (with_reducible assumption) | (with_reducible exact alloc_at _ _) | ((with_reducible apply alloc_at'); (simp; done)) | (with_reducible apply alloc_at_lt) | (with_reducible apply heap_drew_at) | (with_reducible apply heap_drewN_at) | (with_reducible apply heap_setCell_same) | ((with_reducible apply heap_set_ne); (first | omega | (dsimp only; omega) | (simp; done) | (simp; omega))) | (with_reducible apply setRow_at) | ((with_reducible apply setRow_ne); (first | omega | (dsimp only; omega) | (simp; done) | (simp; omega))))))); simp))
  have R_6 : w6.heap[w.heap.size + 1 + 1]? = some (.cells #[.int .u64 0, .int .u64 0] 24 (0, 0)) := below_at hb6 (by first | omega | (simp; done) | (simp; omega)) (by (repeat (first | (with_reducible assumption) | (with_reducible exact alloc_at _ _) | ((with_reducible apply alloc_at'); (simp; done)) | (with_reducible apply alloc_at_lt) | (with_reducible apply heap_drew_at) | (with_reducible apply heap_drewN_at) | (with_reducible apply heap_setCell_same) | ((with_reducible apply heap_set_ne); (first | omega | (dsimp only; omega) | (simp; done) | (simp; omega))) | (with_reducible apply setRow_at) | ((with_reducible apply setRow_ne); (first | omega | (dsimp only; omega) | (simp; done) | (simp; omega))))))
  have B6 : Below w.heap.size w w6 := Below.trans (by repeat (first | with_reducible assumption | with_reducible exact Below.refl _ _ | with_reducible refine Below.drew ?_ | with_reducible refine below_drewN ?_ _ | with_reducible refine below_alloc ?_ _ | with_reducible refine Below.alloc ?_ (by first | omega | (simp; done) | (simp; omega)) _ | with_reducible refine Below.setCell ?_ (by first | omega | (simp; done) | (simp; omega)) _ | with_reducible refine below_setRow ?_ (by first | omega | (simp; done) | (simp; omega)) _)) (hb6.mono (by first | omega | (simp; done) | (simp; omega)))
  clear hb6 A_5 B_5 R_5
  clear Ac0 Ac1 Acf
  clear Bc0 Bc1 Bcf
  clear Rc0 Rc1 Rcf
  have Ac0 : w6.cell? ⟨w.heap.size, 0, none⟩ = some (.int .u64 p) := (blk_cell A_6 0).trans rfl
  have Ac1 : w6.cell? ⟨w.heap.size, 1, none⟩ = some (.int .u64 q) := (blk_cell A_6 1).trans rfl
  have Acf := blk_free A_6
  have Bc0 : w6.cell? ⟨w.heap.size + 1, 0, none⟩ = some (.int .u64 r) := (blk_cell B_6 0).trans rfl
  have Bc1 : w6.cell? ⟨w.heap.size + 1, 1, none⟩ = some (.int .u64 s) := (blk_cell B_6 1).trans rfl
  have Bcf := blk_free B_6
  have Rc0 : w6.cell? ⟨w.heap.size + 1 + 1, 0, none⟩ = some (.int .u64 0) := (blk_cell R_6 0).trans rfl
  have Rc1 : w6.cell? ⟨w.heap.size + 1 + 1, 1, none⟩ = some (.int .u64 0) := (blk_cell R_6 1).trans rfl
  have Rcf := blk_free R_6
  have Al6 : w.heap.size < w6.heap.size := by omega
  have Bl6 : w.heap.size + 1 < w6.heap.size := by omega
  have Rl6 : w.heap.size + 1 + 1 < w6.heap.size := by omega
  go_wp2_with fail
  refine (HL.out _).mono ?_
  rintro e w7 ⟨rfl, hb7⟩
  have hs7 := hb7.size
  try simp only [World.size_alloc, World.size_setCell] at hs7
  have A_7 : w7.heap[w.heap.size]? = some (.cells #[.int .u64 p, .int .u64 q] 24 (0, 0)) := below_at hb7 (by first | omega | (simp; done) | (simp; omega)) (at_of (by apply Exists.intro; refine ⟨?_, ?_⟩; (focus ((repeat (first | (with_reducible assumption) | (with_reducible exact alloc_at _ _) | ((with_reducible apply alloc_at'); (simp; done)) | (with_reducible apply alloc_at_lt) | (with_reducible apply heap_drew_at) | (with_reducible apply heap_drewN_at) | (with_reducible apply heap_setCell_same) | ((with_reducible apply heap_set_ne); (first | omega | (dsimp only; omega) | (simp; done) | (simp; omega))) | (with_reducible apply setRow_at) | ((with_reducible apply setRow_ne); (first | omega | (dsimp only; omega) | (simp; done) | (simp; omega))))))); simp))
  have B_7 : w7.heap[w.heap.size + 1]? = some (.cells #[.int .u64 r, .int .u64 s] 24 (0, 0)) := below_at hb7 (by first | omega | (simp; done) | (simp; omega)) (at_of (by apply Exists.intro; refine ⟨?_, ?_⟩; (focus ((repeat (first | (with_reducible assumption) | (with_reducible exact alloc_at _ _) | ((with_reducible apply alloc_at'); (simp; done)) | (with_reducible apply alloc_at_lt) | (with_reducible apply heap_drew_at) | (with_reducible apply heap_drewN_at) | (with_reducible apply heap_setCell_same) | ((with_reducible apply heap_set_ne); (first | omega | (dsimp only; omega) | (simp; done) | (simp; omega))) | (with_reducible apply setRow_at) | ((with_reducible apply setRow_ne); (first | omega | (dsimp only; omega) | (simp; done) | (simp; omega))))))); simp))
  have R_7 : w7.heap[w.heap.size + 1 + 1]? = some (.cells #[.int .u64 0, .int .u64 0] 24 (0, 0)) := below_at hb7 (by first | omega | (simp; done) | (simp; omega)) (by (repeat (first | (with_reducible assumption) | (with_reducible exact alloc_at _ _) | ((with_reducible apply alloc_at'); (simp; done)) | (with_reducible apply alloc_at_lt) | (with_reducible apply heap_drew_at) | (with_reducible apply heap_drewN_at) | (with_reducible apply heap_setCell_same) | ((with_reducible apply heap_set_ne); (first | omega | (dsimp only; omega) | (simp; done) | (simp; omega))) | (with_reducible apply setRow_at) | ((with_reducible apply setRow_ne); (first | omega | (dsimp only; omega) | (simp; done) | (simp; omega))))))
  have B7 : Below w.heap.size w w7 := Below.trans (by repeat (first | with_reducible assumption | with_reducible exact Below.refl _ _ | with_reducible refine Below.drew ?_ | with_reducible refine below_drewN ?_ _ | with_reducible refine below_alloc ?_ _ | with_reducible refine Below.alloc ?_ (by first | omega | (simp; done) | (simp; omega)) _ | with_reducible refine Below.setCell ?_ (by first | omega | (simp; done) | (simp; omega)) _ | with_reducible refine below_setRow ?_ (by first | omega | (simp; done) | (simp; omega)) _)) (hb7.mono (by first | omega | (simp; done) | (simp; omega)))
  clear hb7 A_6 B_6 R_6
  clear Ac0 Ac1 Acf
  clear Bc0 Bc1 Bcf
  clear Rc0 Rc1 Rcf
  have Ac0 : w7.cell? ⟨w.heap.size, 0, none⟩ = some (.int .u64 p) := (blk_cell A_7 0).trans rfl
  have Ac1 : w7.cell? ⟨w.heap.size, 1, none⟩ = some (.int .u64 q) := (blk_cell A_7 1).trans rfl
  have Acf := blk_free A_7
  have Bc0 : w7.cell? ⟨w.heap.size + 1, 0, none⟩ = some (.int .u64 r) := (blk_cell B_7 0).trans rfl
  have Bc1 : w7.cell? ⟨w.heap.size + 1, 1, none⟩ = some (.int .u64 s) := (blk_cell B_7 1).trans rfl
  have Bcf := blk_free B_7
  have Rc0 : w7.cell? ⟨w.heap.size + 1 + 1, 0, none⟩ = some (.int .u64 0) := (blk_cell R_7 0).trans rfl
  have Rc1 : w7.cell? ⟨w.heap.size + 1 + 1, 1, none⟩ = some (.int .u64 0) := (blk_cell R_7 1).trans rfl
  have Rcf := blk_free R_7
  have Al7 : w.heap.size < w7.heap.size := by omega
  have Bl7 : w.heap.size + 1 < w7.heap.size := by omega
  have Rl7 : w.heap.size + 1 + 1 < w7.heap.size := by omega
  go_wp2
  refine ret_row2 rfl (w.heap.size + 1 + 1) #[.int .u64 n, .int .u64 d] 24 _ rfl Try.underlying24 rfl infoR rfl (by apply Exists.intro; refine ⟨?_, ?_⟩; (focus ((repeat (first | (with_reducible assumption) | (with_reducible exact alloc_at _ _) | ((with_reducible apply alloc_at'); (simp; done)) | (with_reducible apply alloc_at_lt) | (with_reducible apply heap_drew_at) | (with_reducible apply heap_drewN_at) | (with_reducible apply heap_setCell_same) | ((with_reducible apply heap_set_ne); (first | omega | (dsimp only; omega) | (simp; done) | (simp; omega))) | (with_reducible apply setRow_at) | ((with_reducible apply setRow_ne); (first | omega | (dsimp only; omega) | (simp; done) | (simp; omega))))))); simp) ⟨rfl, (by repeat (first | with_reducible assumption | with_reducible exact Below.refl _ _ | with_reducible refine Below.drew ?_ | with_reducible refine below_drewN ?_ _ | with_reducible refine below_alloc ?_ _ | with_reducible refine Below.alloc ?_ (by first | omega | (simp; done) | (simp; omega)) _ | with_reducible refine Below.setCell ?_ (by first | omega | (simp; done) | (simp; omega)) _ | with_reducible refine below_setRow ?_ (by first | omega | (simp; done) | (simp; omega)) _))⟩
end Go.Proofs.Ytbkopmgfkokmgaa
