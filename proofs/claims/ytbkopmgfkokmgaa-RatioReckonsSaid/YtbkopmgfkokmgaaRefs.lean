/- The contracts of the reference's Add, Sub and Mul: the exact sum, difference and product, or refused. Asked: that the numbers are words. -/
import Derived.Test.YtbkopmgfkokmgaaBigA
import Derived.Test.YtbkopmgfkokmgaaBig4
import Derived.Deep.DeepCutAuto
namespace Go.Proofs.Ytbkopmgfkokmgaa
open Go.RowKit
set_option maxRecDepth 100000 in
set_option maxHeartbeats 4000000 in
theorem radd_z1 (an ad bn bd  : Int) (w : World) (hq : (ad == 0) = true) :
    Calls Try.prog 17 #[.agg #[.int .u64 an, .int .u64 ad], .agg #[.int .u64 bn, .int .u64 bd]] w fun e w' => e = .returned (.tuple #[.agg #[.int .u64 0, .int .u64 0], .int .i64 4]) ∧ Below w.heap.size w w' := by
  go_enter Try.func17, Try.ntmps17
  go_wp2
  refine ret_row2 rfl (w.heap.size + 1 + 1) #[.int .u64 0, .int .u64 0] 29 _ rfl Try.underlying29 rfl infoR' rfl (by apply Exists.intro; refine ⟨?_, ?_⟩; (focus ((repeat (first | (with_reducible assumption) | (with_reducible exact alloc_at _ _) | ((with_reducible apply alloc_at'); (simp; done)) | (with_reducible apply alloc_at_lt) | (with_reducible apply heap_drew_at) | (with_reducible apply heap_drewN_at) | (with_reducible apply heap_setCell_same) | ((with_reducible apply heap_set_ne); (first | omega | (dsimp only; omega) | (simp; done) | (simp; omega))) | (with_reducible apply setRow_at) | ((with_reducible apply setRow_ne); (first | omega | (dsimp only; omega) | (simp; done) | (simp; omega))))))); simp) ⟨rfl, (by repeat (first | with_reducible assumption | with_reducible exact Below.refl _ _ | with_reducible refine Below.drew ?_ | with_reducible refine below_drewN ?_ _ | with_reducible refine below_alloc ?_ _ | with_reducible refine Below.alloc ?_ (by first | omega | (simp; done) | (simp; omega)) _ | with_reducible refine Below.setCell ?_ (by first | omega | (simp; done) | (simp; omega)) _ | with_reducible refine below_setRow ?_ (by first | omega | (simp; done) | (simp; omega)) _))⟩
set_option maxRecDepth 100000 in
set_option maxHeartbeats 4000000 in
theorem radd_z2 (an ad bn bd  : Int) (w : World) (hp : (ad == 0) = false) (hq : (bd == 0) = true) :
    Calls Try.prog 17 #[.agg #[.int .u64 an, .int .u64 ad], .agg #[.int .u64 bn, .int .u64 bd]] w fun e w' => e = .returned (.tuple #[.agg #[.int .u64 0, .int .u64 0], .int .i64 4]) ∧ Below w.heap.size w w' := by
  go_enter Try.func17, Try.ntmps17
  go_wp2
  refine ret_row2 rfl (w.heap.size + 1 + 1) #[.int .u64 0, .int .u64 0] 29 _ rfl Try.underlying29 rfl infoR' rfl (by apply Exists.intro; refine ⟨?_, ?_⟩; (focus ((repeat (first | (with_reducible assumption) | (with_reducible exact alloc_at _ _) | ((with_reducible apply alloc_at'); (simp; done)) | (with_reducible apply alloc_at_lt) | (with_reducible apply heap_drew_at) | (with_reducible apply heap_drewN_at) | (with_reducible apply heap_setCell_same) | ((with_reducible apply heap_set_ne); (first | omega | (dsimp only; omega) | (simp; done) | (simp; omega))) | (with_reducible apply setRow_at) | ((with_reducible apply setRow_ne); (first | omega | (dsimp only; omega) | (simp; done) | (simp; omega))))))); simp) ⟨rfl, (by repeat (first | with_reducible assumption | with_reducible exact Below.refl _ _ | with_reducible refine Below.drew ?_ | with_reducible refine below_drewN ?_ _ | with_reducible refine below_alloc ?_ _ | with_reducible refine Below.alloc ?_ (by first | omega | (simp; done) | (simp; omega)) _ | with_reducible refine Below.setCell ?_ (by first | omega | (simp; done) | (simp; omega)) _ | with_reducible refine below_setRow ?_ (by first | omega | (simp; done) | (simp; omega)) _))⟩
set_option maxRecDepth 100000 in
set_option maxHeartbeats 4000000 in
theorem rmul_z1 (an ad bn bd  : Int) (w : World) (hq : (ad == 0) = true) :
    Calls Try.prog 20 #[.agg #[.int .u64 an, .int .u64 ad], .agg #[.int .u64 bn, .int .u64 bd]] w fun e w' => e = .returned (.tuple #[.agg #[.int .u64 0, .int .u64 0], .int .i64 4]) ∧ Below w.heap.size w w' := by
  go_enter Try.func20, Try.ntmps20
  go_wp2
  refine ret_row2 rfl (w.heap.size + 1 + 1) #[.int .u64 0, .int .u64 0] 29 _ rfl Try.underlying29 rfl infoR' rfl (by apply Exists.intro; refine ⟨?_, ?_⟩; (focus ((repeat (first | (with_reducible assumption) | (with_reducible exact alloc_at _ _) | ((with_reducible apply alloc_at'); (simp; done)) | (with_reducible apply alloc_at_lt) | (with_reducible apply heap_drew_at) | (with_reducible apply heap_drewN_at) | (with_reducible apply heap_setCell_same) | ((with_reducible apply heap_set_ne); (first | omega | (dsimp only; omega) | (simp; done) | (simp; omega))) | (with_reducible apply setRow_at) | ((with_reducible apply setRow_ne); (first | omega | (dsimp only; omega) | (simp; done) | (simp; omega))))))); simp) ⟨rfl, (by repeat (first | with_reducible assumption | with_reducible exact Below.refl _ _ | with_reducible refine Below.drew ?_ | with_reducible refine below_drewN ?_ _ | with_reducible refine below_alloc ?_ _ | with_reducible refine Below.alloc ?_ (by first | omega | (simp; done) | (simp; omega)) _ | with_reducible refine Below.setCell ?_ (by first | omega | (simp; done) | (simp; omega)) _ | with_reducible refine below_setRow ?_ (by first | omega | (simp; done) | (simp; omega)) _))⟩
set_option maxRecDepth 100000 in
set_option maxHeartbeats 4000000 in
theorem rmul_z2 (an ad bn bd  : Int) (w : World) (hp : (ad == 0) = false) (hq : (bd == 0) = true) :
    Calls Try.prog 20 #[.agg #[.int .u64 an, .int .u64 ad], .agg #[.int .u64 bn, .int .u64 bd]] w fun e w' => e = .returned (.tuple #[.agg #[.int .u64 0, .int .u64 0], .int .i64 4]) ∧ Below w.heap.size w w' := by
  go_enter Try.func20, Try.ntmps20
  go_wp2
  refine ret_row2 rfl (w.heap.size + 1 + 1) #[.int .u64 0, .int .u64 0] 29 _ rfl Try.underlying29 rfl infoR' rfl (by apply Exists.intro; refine ⟨?_, ?_⟩; (focus ((repeat (first | (with_reducible assumption) | (with_reducible exact alloc_at _ _) | ((with_reducible apply alloc_at'); (simp; done)) | (with_reducible apply alloc_at_lt) | (with_reducible apply heap_drew_at) | (with_reducible apply heap_drewN_at) | (with_reducible apply heap_setCell_same) | ((with_reducible apply heap_set_ne); (first | omega | (dsimp only; omega) | (simp; done) | (simp; omega))) | (with_reducible apply setRow_at) | ((with_reducible apply setRow_ne); (first | omega | (dsimp only; omega) | (simp; done) | (simp; omega))))))); simp) ⟨rfl, (by repeat (first | with_reducible assumption | with_reducible exact Below.refl _ _ | with_reducible refine Below.drew ?_ | with_reducible refine below_drewN ?_ _ | with_reducible refine below_alloc ?_ _ | with_reducible refine Below.alloc ?_ (by first | omega | (simp; done) | (simp; omega)) _ | with_reducible refine Below.setCell ?_ (by first | omega | (simp; done) | (simp; omega)) _ | with_reducible refine below_setRow ?_ (by first | omega | (simp; done) | (simp; omega)) _))⟩
set_option maxRecDepth 100000 in
set_option maxHeartbeats 4000000 in
theorem radd_w (an ad bn bd r0 r1 er : Int) (w : World) (hp : (ad == 0) = false) (hq : (bd == 0) = false) (P1 : Hid (Wrd an)) (P2 : Hid (Wrd ad)) (P3 : Hid (Wrd bn)) (P4 : Hid (Wrd bd)) (HM : True) (HL : Hid (∀ W, Calls Try.prog 29 #[.agg (bigA (an.toNat * bd.toNat + bn.toNat * ad.toNat)), .agg (bigA (ad.toNat * bd.toNat))] W fun e w' => e = .returned (.tuple #[.agg #[.int .u64 r0, .int .u64 r1], .int .i64 er]) ∧ Below W.heap.size W w')) :
    Calls Try.prog 17 #[.agg #[.int .u64 an, .int .u64 ad], .agg #[.int .u64 bn, .int .u64 bd]] w fun e w' => e = .returned (.tuple #[.agg #[.int .u64 r0, .int .u64 r1], .int .i64 er]) ∧ Below w.heap.size w w' := by
  go_enter Try.func17, Try.ntmps17
  go_wp2_with fail
  obtain ⟨w1, hw1⟩ : ∃ wx_ : World, wx_ = ((w.alloc (.cells #[.int .u64 an, .int .u64 ad] 29)).alloc (.cells #[.int .u64 bn, .int .u64 bd] 29)).alloc (.cells #[.int .u64 0, .int .u64 0] 29) := ⟨_, rfl⟩
  rw [← hw1]
  have B1 : Below w.heap.size w w1 := by rw [hw1]; exact (by repeat (first | with_reducible assumption | with_reducible exact Below.refl _ _ | with_reducible refine Below.drew ?_ | with_reducible refine below_drewN ?_ _ | with_reducible refine below_alloc ?_ _ | with_reducible refine Below.alloc ?_ (by first | omega | (simp; done) | (simp; omega)) _ | with_reducible refine Below.setCell ?_ (by first | omega | (simp; done) | (simp; omega)) _ | with_reducible refine below_setRow ?_ (by first | omega | (simp; done) | (simp; omega)) _))
  have A_1 : w1.heap[w.heap.size]? = some (.cells #[.int .u64 an, .int .u64 ad] 29 (0, 0)) := by rw [hw1]; exact at_of (by apply Exists.intro; refine ⟨?_, ?_⟩; (focus ((repeat (first | (with_reducible assumption) | (with_reducible exact alloc_at _ _) | ((with_reducible apply alloc_at'); (simp; done)) | (with_reducible apply alloc_at_lt) | (with_reducible apply heap_drew_at) | (with_reducible apply heap_drewN_at) | (with_reducible apply heap_setCell_same) | ((with_reducible apply heap_set_ne); (first | omega | (dsimp only; omega) | (simp; done) | (simp; omega))) | (with_reducible apply setRow_at) | ((with_reducible apply setRow_ne); (first | omega | (dsimp only; omega) | (simp; done) | (simp; omega))))))); simp)
  have B_1 : w1.heap[w.heap.size + 1]? = some (.cells #[.int .u64 bn, .int .u64 bd] 29 (0, 0)) := by rw [hw1]; exact at_of (by apply Exists.intro; refine ⟨?_, ?_⟩; (focus ((repeat (first | (with_reducible assumption) | (with_reducible exact alloc_at _ _) | ((with_reducible apply alloc_at'); (simp; done)) | (with_reducible apply alloc_at_lt) | (with_reducible apply heap_drew_at) | (with_reducible apply heap_drewN_at) | (with_reducible apply heap_setCell_same) | ((with_reducible apply heap_set_ne); (first | omega | (dsimp only; omega) | (simp; done) | (simp; omega))) | (with_reducible apply setRow_at) | ((with_reducible apply setRow_ne); (first | omega | (dsimp only; omega) | (simp; done) | (simp; omega))))))); simp)
  have R_1 : w1.heap[w.heap.size + 1 + 1]? = some (.cells #[.int .u64 0, .int .u64 0] 29 (0, 0)) := by rw [hw1]; exact at_of (by apply Exists.intro; refine ⟨?_, ?_⟩; (focus ((repeat (first | (with_reducible assumption) | (with_reducible exact alloc_at _ _) | ((with_reducible apply alloc_at'); (simp; done)) | (with_reducible apply alloc_at_lt) | (with_reducible apply heap_drew_at) | (with_reducible apply heap_drewN_at) | (with_reducible apply heap_setCell_same) | ((with_reducible apply heap_set_ne); (first | omega | (dsimp only; omega) | (simp; done) | (simp; omega))) | (with_reducible apply setRow_at) | ((with_reducible apply setRow_ne); (first | omega | (dsimp only; omega) | (simp; done) | (simp; omega))))))); simp)
  clear hw1
  have Ac0 : w1.cell? ⟨w.heap.size, 0, none⟩ = some (.int .u64 an) := (blk_cell A_1 0).trans rfl
  have Ac1 : w1.cell? ⟨w.heap.size, 1, none⟩ = some (.int .u64 ad) := (blk_cell A_1 1).trans rfl
  have Acf := blk_free A_1
  have Bc0 : w1.cell? ⟨w.heap.size + 1, 0, none⟩ = some (.int .u64 bn) := (blk_cell B_1 0).trans rfl
  have Bc1 : w1.cell? ⟨w.heap.size + 1, 1, none⟩ = some (.int .u64 bd) := (blk_cell B_1 1).trans rfl
  have Bcf := blk_free B_1
  have Rc0 : w1.cell? ⟨w.heap.size + 1 + 1, 0, none⟩ = some (.int .u64 0) := (blk_cell R_1 0).trans rfl
  have Rc1 : w1.cell? ⟨w.heap.size + 1 + 1, 1, none⟩ = some (.int .u64 0) := (blk_cell R_1 1).trans rfl
  have Rcf := blk_free R_1
  have Al1 : w.heap.size < w1.heap.size := lt_of_at A_1
  have Bl1 : w.heap.size + 1 < w1.heap.size := lt_of_at B_1
  have Rl1 : w.heap.size + 1 + 1 < w1.heap.size := lt_of_at R_1
  have Ae0 : ∀ lx_ : Lat w1.heap.size w1, lx_.w.cell? ⟨w.heap.size, 0, none⟩ = some (.int .u64 an) := fun lx_ => by rw [lx_.cell _ _ Al1]; exact Ac0
  have Ae1 : ∀ lx_ : Lat w1.heap.size w1, lx_.w.cell? ⟨w.heap.size, 1, none⟩ = some (.int .u64 ad) := fun lx_ => by rw [lx_.cell _ _ Al1]; exact Ac1
  have Be0 : ∀ lx_ : Lat w1.heap.size w1, lx_.w.cell? ⟨w.heap.size + 1, 0, none⟩ = some (.int .u64 bn) := fun lx_ => by rw [lx_.cell _ _ Bl1]; exact Bc0
  have Be1 : ∀ lx_ : Lat w1.heap.size w1, lx_.w.cell? ⟨w.heap.size + 1, 1, none⟩ = some (.int .u64 bd) := fun lx_ => by rw [lx_.cell _ _ Bl1]; exact Bc1
  refine wp_region_lat_tail 22 (by kernel_rfl) (by kernel_rfl) ?_
  simp only [List.take_succ_cons, List.take_zero, List.drop_succ_cons, List.drop_zero]
  repeat (go_big_quiet_step (first | (go_at_call 26; exact lat_of (Nat.le_refl _) (of_int _ _ (by assumption))) | (go_at_call 27; exact lat_of (Nat.le_refl _) (times_int _ _ _ (by assumption))) | (go_at_call 30; exact lat_of (Nat.le_refl _) (plus_any _ _ _)) | (go_at_call 31; exact lat_of (Nat.le_refl _) (plus_any _ _ _)) | (go_at_call 29; exact lat_of (Nat.le_refl _) (HL.out _))))
  refine wpQuiet_nil ?_
  rintro w2 ⟨x2, hx2⟩
  have hb2 := x2.h
  rw [← hx2] at hb2
  clear hx2 x2 Ae0 Ae1 Be0 Be1
  have hs2 := hb2.size
  try simp only [World.size_alloc, World.size_setCell] at hs2
  have A_2 : w2.heap[w.heap.size]? = some (.cells #[.int .u64 an, .int .u64 ad] 29 (0, 0)) := below_at hb2 (by first | omega | (simp; done) | (simp; omega)) (by (repeat (first | (with_reducible assumption) | (with_reducible exact alloc_at _ _) | ((with_reducible apply alloc_at'); (simp; done)) | (with_reducible apply alloc_at_lt) | (with_reducible apply heap_drew_at) | (with_reducible apply heap_drewN_at) | (with_reducible apply heap_setCell_same) | ((with_reducible apply heap_set_ne); (first | omega | (dsimp only; omega) | (simp; done) | (simp; omega))) | (with_reducible apply setRow_at) | ((with_reducible apply setRow_ne); (first | omega | (dsimp only; omega) | (simp; done) | (simp; omega))))))
  have B_2 : w2.heap[w.heap.size + 1]? = some (.cells #[.int .u64 bn, .int .u64 bd] 29 (0, 0)) := below_at hb2 (by first | omega | (simp; done) | (simp; omega)) (by (repeat (first | (with_reducible assumption) | (with_reducible exact alloc_at _ _) | ((with_reducible apply alloc_at'); (simp; done)) | (with_reducible apply alloc_at_lt) | (with_reducible apply heap_drew_at) | (with_reducible apply heap_drewN_at) | (with_reducible apply heap_setCell_same) | ((with_reducible apply heap_set_ne); (first | omega | (dsimp only; omega) | (simp; done) | (simp; omega))) | (with_reducible apply setRow_at) | ((with_reducible apply setRow_ne); (first | omega | (dsimp only; omega) | (simp; done) | (simp; omega))))))
  have R_2 : w2.heap[w.heap.size + 1 + 1]? = some (.cells #[.int .u64 0, .int .u64 0] 29 (0, 0)) := below_at hb2 (by first | omega | (simp; done) | (simp; omega)) (by (repeat (first | (with_reducible assumption) | (with_reducible exact alloc_at _ _) | ((with_reducible apply alloc_at'); (simp; done)) | (with_reducible apply alloc_at_lt) | (with_reducible apply heap_drew_at) | (with_reducible apply heap_drewN_at) | (with_reducible apply heap_setCell_same) | ((with_reducible apply heap_set_ne); (first | omega | (dsimp only; omega) | (simp; done) | (simp; omega))) | (with_reducible apply setRow_at) | ((with_reducible apply setRow_ne); (first | omega | (dsimp only; omega) | (simp; done) | (simp; omega))))))
  have B2 : Below w.heap.size w w2 := Below.trans (by repeat (first | with_reducible assumption | with_reducible exact Below.refl _ _ | with_reducible refine Below.drew ?_ | with_reducible refine below_drewN ?_ _ | with_reducible refine below_alloc ?_ _ | with_reducible refine Below.alloc ?_ (by first | omega | (simp; done) | (simp; omega)) _ | with_reducible refine Below.setCell ?_ (by first | omega | (simp; done) | (simp; omega)) _ | with_reducible refine below_setRow ?_ (by first | omega | (simp; done) | (simp; omega)) _)) (hb2.mono (by first | omega | (simp; done) | (simp; omega)))
  clear hb2 A_1 B_1 R_1
  clear Ac0 Ac1 Acf
  clear Bc0 Bc1 Bcf
  clear Rc0 Rc1 Rcf
  have Ac0 : w2.cell? ⟨w.heap.size, 0, none⟩ = some (.int .u64 an) := (blk_cell A_2 0).trans rfl
  have Ac1 : w2.cell? ⟨w.heap.size, 1, none⟩ = some (.int .u64 ad) := (blk_cell A_2 1).trans rfl
  have Acf := blk_free A_2
  have Bc0 : w2.cell? ⟨w.heap.size + 1, 0, none⟩ = some (.int .u64 bn) := (blk_cell B_2 0).trans rfl
  have Bc1 : w2.cell? ⟨w.heap.size + 1, 1, none⟩ = some (.int .u64 bd) := (blk_cell B_2 1).trans rfl
  have Bcf := blk_free B_2
  have Rc0 : w2.cell? ⟨w.heap.size + 1 + 1, 0, none⟩ = some (.int .u64 0) := (blk_cell R_2 0).trans rfl
  have Rc1 : w2.cell? ⟨w.heap.size + 1 + 1, 1, none⟩ = some (.int .u64 0) := (blk_cell R_2 1).trans rfl
  have Rcf := blk_free R_2
  have Al2 : w.heap.size < w2.heap.size := by omega
  have Bl2 : w.heap.size + 1 < w2.heap.size := by omega
  have Rl2 : w.heap.size + 1 + 1 < w2.heap.size := by omega
  go_wp2
  refine ret_row2 rfl (w.heap.size + 1 + 1) #[.int .u64 r0, .int .u64 r1] 29 _ rfl Try.underlying29 rfl infoR' rfl (by apply Exists.intro; refine ⟨?_, ?_⟩; (focus ((repeat (first | (with_reducible assumption) | (with_reducible exact alloc_at _ _) | ((with_reducible apply alloc_at'); (simp; done)) | (with_reducible apply alloc_at_lt) | (with_reducible apply heap_drew_at) | (with_reducible apply heap_drewN_at) | (with_reducible apply heap_setCell_same) | ((with_reducible apply heap_set_ne); (first | omega | (dsimp only; omega) | (simp; done) | (simp; omega))) | (with_reducible apply setRow_at) | ((with_reducible apply setRow_ne); (first | omega | (dsimp only; omega) | (simp; done) | (simp; omega))))))); simp) ⟨rfl, (by repeat (first | with_reducible assumption | with_reducible exact Below.refl _ _ | with_reducible refine Below.drew ?_ | with_reducible refine below_drewN ?_ _ | with_reducible refine below_alloc ?_ _ | with_reducible refine Below.alloc ?_ (by first | omega | (simp; done) | (simp; omega)) _ | with_reducible refine Below.setCell ?_ (by first | omega | (simp; done) | (simp; omega)) _ | with_reducible refine below_setRow ?_ (by first | omega | (simp; done) | (simp; omega)) _))⟩
set_option maxRecDepth 100000 in
set_option maxHeartbeats 4000000 in
theorem rmul_w (an ad bn bd r0 r1 er : Int) (w : World) (hp : (ad == 0) = false) (hq : (bd == 0) = false) (P1 : Hid (Wrd an)) (P2 : Hid (Wrd ad)) (P3 : Hid (Wrd bn)) (P4 : Hid (Wrd bd)) (HM : True) (HL : Hid (∀ W, Calls Try.prog 29 #[.agg (bigA (an.toNat * bn.toNat)), .agg (bigA (ad.toNat * bd.toNat))] W fun e w' => e = .returned (.tuple #[.agg #[.int .u64 r0, .int .u64 r1], .int .i64 er]) ∧ Below W.heap.size W w')) :
    Calls Try.prog 20 #[.agg #[.int .u64 an, .int .u64 ad], .agg #[.int .u64 bn, .int .u64 bd]] w fun e w' => e = .returned (.tuple #[.agg #[.int .u64 r0, .int .u64 r1], .int .i64 er]) ∧ Below w.heap.size w w' := by
  go_enter Try.func20, Try.ntmps20
  go_wp2_with fail
  obtain ⟨w1, hw1⟩ : ∃ wx_ : World, wx_ = ((w.alloc (.cells #[.int .u64 an, .int .u64 ad] 29)).alloc (.cells #[.int .u64 bn, .int .u64 bd] 29)).alloc (.cells #[.int .u64 0, .int .u64 0] 29) := ⟨_, rfl⟩
  rw [← hw1]
  have B1 : Below w.heap.size w w1 := by rw [hw1]; exact (by repeat (first | with_reducible assumption | with_reducible exact Below.refl _ _ | with_reducible refine Below.drew ?_ | with_reducible refine below_drewN ?_ _ | with_reducible refine below_alloc ?_ _ | with_reducible refine Below.alloc ?_ (by first | omega | (simp; done) | (simp; omega)) _ | with_reducible refine Below.setCell ?_ (by first | omega | (simp; done) | (simp; omega)) _ | with_reducible refine below_setRow ?_ (by first | omega | (simp; done) | (simp; omega)) _))
  have A_1 : w1.heap[w.heap.size]? = some (.cells #[.int .u64 an, .int .u64 ad] 29 (0, 0)) := by rw [hw1]; exact at_of (by apply Exists.intro; refine ⟨?_, ?_⟩; (focus ((repeat (first | (with_reducible assumption) | (with_reducible exact alloc_at _ _) | ((with_reducible apply alloc_at'); (simp; done)) | (with_reducible apply alloc_at_lt) | (with_reducible apply heap_drew_at) | (with_reducible apply heap_drewN_at) | (with_reducible apply heap_setCell_same) | ((with_reducible apply heap_set_ne); (first | omega | (dsimp only; omega) | (simp; done) | (simp; omega))) | (with_reducible apply setRow_at) | ((with_reducible apply setRow_ne); (first | omega | (dsimp only; omega) | (simp; done) | (simp; omega))))))); simp)
  have B_1 : w1.heap[w.heap.size + 1]? = some (.cells #[.int .u64 bn, .int .u64 bd] 29 (0, 0)) := by rw [hw1]; exact at_of (by apply Exists.intro; refine ⟨?_, ?_⟩; (focus ((repeat (first | (with_reducible assumption) | (with_reducible exact alloc_at _ _) | ((with_reducible apply alloc_at'); (simp; done)) | (with_reducible apply alloc_at_lt) | (with_reducible apply heap_drew_at) | (with_reducible apply heap_drewN_at) | (with_reducible apply heap_setCell_same) | ((with_reducible apply heap_set_ne); (first | omega | (dsimp only; omega) | (simp; done) | (simp; omega))) | (with_reducible apply setRow_at) | ((with_reducible apply setRow_ne); (first | omega | (dsimp only; omega) | (simp; done) | (simp; omega))))))); simp)
  have R_1 : w1.heap[w.heap.size + 1 + 1]? = some (.cells #[.int .u64 0, .int .u64 0] 29 (0, 0)) := by rw [hw1]; exact at_of (by apply Exists.intro; refine ⟨?_, ?_⟩; (focus ((repeat (first | (with_reducible assumption) | (with_reducible exact alloc_at _ _) | ((with_reducible apply alloc_at'); (simp; done)) | (with_reducible apply alloc_at_lt) | (with_reducible apply heap_drew_at) | (with_reducible apply heap_drewN_at) | (with_reducible apply heap_setCell_same) | ((with_reducible apply heap_set_ne); (first | omega | (dsimp only; omega) | (simp; done) | (simp; omega))) | (with_reducible apply setRow_at) | ((with_reducible apply setRow_ne); (first | omega | (dsimp only; omega) | (simp; done) | (simp; omega))))))); simp)
  clear hw1
  have Ac0 : w1.cell? ⟨w.heap.size, 0, none⟩ = some (.int .u64 an) := (blk_cell A_1 0).trans rfl
  have Ac1 : w1.cell? ⟨w.heap.size, 1, none⟩ = some (.int .u64 ad) := (blk_cell A_1 1).trans rfl
  have Acf := blk_free A_1
  have Bc0 : w1.cell? ⟨w.heap.size + 1, 0, none⟩ = some (.int .u64 bn) := (blk_cell B_1 0).trans rfl
  have Bc1 : w1.cell? ⟨w.heap.size + 1, 1, none⟩ = some (.int .u64 bd) := (blk_cell B_1 1).trans rfl
  have Bcf := blk_free B_1
  have Rc0 : w1.cell? ⟨w.heap.size + 1 + 1, 0, none⟩ = some (.int .u64 0) := (blk_cell R_1 0).trans rfl
  have Rc1 : w1.cell? ⟨w.heap.size + 1 + 1, 1, none⟩ = some (.int .u64 0) := (blk_cell R_1 1).trans rfl
  have Rcf := blk_free R_1
  have Al1 : w.heap.size < w1.heap.size := lt_of_at A_1
  have Bl1 : w.heap.size + 1 < w1.heap.size := lt_of_at B_1
  have Rl1 : w.heap.size + 1 + 1 < w1.heap.size := lt_of_at R_1
  have Ae0 : ∀ lx_ : Lat w1.heap.size w1, lx_.w.cell? ⟨w.heap.size, 0, none⟩ = some (.int .u64 an) := fun lx_ => by rw [lx_.cell _ _ Al1]; exact Ac0
  have Ae1 : ∀ lx_ : Lat w1.heap.size w1, lx_.w.cell? ⟨w.heap.size, 1, none⟩ = some (.int .u64 ad) := fun lx_ => by rw [lx_.cell _ _ Al1]; exact Ac1
  have Be0 : ∀ lx_ : Lat w1.heap.size w1, lx_.w.cell? ⟨w.heap.size + 1, 0, none⟩ = some (.int .u64 bn) := fun lx_ => by rw [lx_.cell _ _ Bl1]; exact Bc0
  have Be1 : ∀ lx_ : Lat w1.heap.size w1, lx_.w.cell? ⟨w.heap.size + 1, 1, none⟩ = some (.int .u64 bd) := fun lx_ => by rw [lx_.cell _ _ Bl1]; exact Bc1
  refine wp_region_lat_tail 15 (by kernel_rfl) (by kernel_rfl) ?_
  simp only [List.take_succ_cons, List.take_zero, List.drop_succ_cons, List.drop_zero]
  repeat (go_big_quiet_step (first | (go_at_call 26; exact lat_of (Nat.le_refl _) (of_int _ _ (by assumption))) | (go_at_call 27; exact lat_of (Nat.le_refl _) (times_int _ _ _ (by assumption))) | (go_at_call 30; exact lat_of (Nat.le_refl _) (plus_any _ _ _)) | (go_at_call 31; exact lat_of (Nat.le_refl _) (plus_any _ _ _)) | (go_at_call 29; exact lat_of (Nat.le_refl _) (HL.out _))))
  refine wpQuiet_nil ?_
  rintro w2 ⟨x2, hx2⟩
  have hb2 := x2.h
  rw [← hx2] at hb2
  clear hx2 x2 Ae0 Ae1 Be0 Be1
  have hs2 := hb2.size
  try simp only [World.size_alloc, World.size_setCell] at hs2
  have A_2 : w2.heap[w.heap.size]? = some (.cells #[.int .u64 an, .int .u64 ad] 29 (0, 0)) := below_at hb2 (by first | omega | (simp; done) | (simp; omega)) (by (repeat (first | (with_reducible assumption) | (with_reducible exact alloc_at _ _) | ((with_reducible apply alloc_at'); (simp; done)) | (with_reducible apply alloc_at_lt) | (with_reducible apply heap_drew_at) | (with_reducible apply heap_drewN_at) | (with_reducible apply heap_setCell_same) | ((with_reducible apply heap_set_ne); (first | omega | (dsimp only; omega) | (simp; done) | (simp; omega))) | (with_reducible apply setRow_at) | ((with_reducible apply setRow_ne); (first | omega | (dsimp only; omega) | (simp; done) | (simp; omega))))))
  have B_2 : w2.heap[w.heap.size + 1]? = some (.cells #[.int .u64 bn, .int .u64 bd] 29 (0, 0)) := below_at hb2 (by first | omega | (simp; done) | (simp; omega)) (by (repeat (first | (with_reducible assumption) | (with_reducible exact alloc_at _ _) | ((with_reducible apply alloc_at'); (simp; done)) | (with_reducible apply alloc_at_lt) | (with_reducible apply heap_drew_at) | (with_reducible apply heap_drewN_at) | (with_reducible apply heap_setCell_same) | ((with_reducible apply heap_set_ne); (first | omega | (dsimp only; omega) | (simp; done) | (simp; omega))) | (with_reducible apply setRow_at) | ((with_reducible apply setRow_ne); (first | omega | (dsimp only; omega) | (simp; done) | (simp; omega))))))
  have R_2 : w2.heap[w.heap.size + 1 + 1]? = some (.cells #[.int .u64 0, .int .u64 0] 29 (0, 0)) := below_at hb2 (by first | omega | (simp; done) | (simp; omega)) (by (repeat (first | (with_reducible assumption) | (with_reducible exact alloc_at _ _) | ((with_reducible apply alloc_at'); (simp; done)) | (with_reducible apply alloc_at_lt) | (with_reducible apply heap_drew_at) | (with_reducible apply heap_drewN_at) | (with_reducible apply heap_setCell_same) | ((with_reducible apply heap_set_ne); (first | omega | (dsimp only; omega) | (simp; done) | (simp; omega))) | (with_reducible apply setRow_at) | ((with_reducible apply setRow_ne); (first | omega | (dsimp only; omega) | (simp; done) | (simp; omega))))))
  have B2 : Below w.heap.size w w2 := Below.trans (by repeat (first | with_reducible assumption | with_reducible exact Below.refl _ _ | with_reducible refine Below.drew ?_ | with_reducible refine below_drewN ?_ _ | with_reducible refine below_alloc ?_ _ | with_reducible refine Below.alloc ?_ (by first | omega | (simp; done) | (simp; omega)) _ | with_reducible refine Below.setCell ?_ (by first | omega | (simp; done) | (simp; omega)) _ | with_reducible refine below_setRow ?_ (by first | omega | (simp; done) | (simp; omega)) _)) (hb2.mono (by first | omega | (simp; done) | (simp; omega)))
  clear hb2 A_1 B_1 R_1
  clear Ac0 Ac1 Acf
  clear Bc0 Bc1 Bcf
  clear Rc0 Rc1 Rcf
  have Ac0 : w2.cell? ⟨w.heap.size, 0, none⟩ = some (.int .u64 an) := (blk_cell A_2 0).trans rfl
  have Ac1 : w2.cell? ⟨w.heap.size, 1, none⟩ = some (.int .u64 ad) := (blk_cell A_2 1).trans rfl
  have Acf := blk_free A_2
  have Bc0 : w2.cell? ⟨w.heap.size + 1, 0, none⟩ = some (.int .u64 bn) := (blk_cell B_2 0).trans rfl
  have Bc1 : w2.cell? ⟨w.heap.size + 1, 1, none⟩ = some (.int .u64 bd) := (blk_cell B_2 1).trans rfl
  have Bcf := blk_free B_2
  have Rc0 : w2.cell? ⟨w.heap.size + 1 + 1, 0, none⟩ = some (.int .u64 0) := (blk_cell R_2 0).trans rfl
  have Rc1 : w2.cell? ⟨w.heap.size + 1 + 1, 1, none⟩ = some (.int .u64 0) := (blk_cell R_2 1).trans rfl
  have Rcf := blk_free R_2
  have Al2 : w.heap.size < w2.heap.size := by omega
  have Bl2 : w.heap.size + 1 < w2.heap.size := by omega
  have Rl2 : w.heap.size + 1 + 1 < w2.heap.size := by omega
  go_wp2
  refine ret_row2 rfl (w.heap.size + 1 + 1) #[.int .u64 r0, .int .u64 r1] 29 _ rfl Try.underlying29 rfl infoR' rfl (by apply Exists.intro; refine ⟨?_, ?_⟩; (focus ((repeat (first | (with_reducible assumption) | (with_reducible exact alloc_at _ _) | ((with_reducible apply alloc_at'); (simp; done)) | (with_reducible apply alloc_at_lt) | (with_reducible apply heap_drew_at) | (with_reducible apply heap_drewN_at) | (with_reducible apply heap_setCell_same) | ((with_reducible apply heap_set_ne); (first | omega | (dsimp only; omega) | (simp; done) | (simp; omega))) | (with_reducible apply setRow_at) | ((with_reducible apply setRow_ne); (first | omega | (dsimp only; omega) | (simp; done) | (simp; omega))))))); simp) ⟨rfl, (by repeat (first | with_reducible assumption | with_reducible exact Below.refl _ _ | with_reducible refine Below.drew ?_ | with_reducible refine below_drewN ?_ _ | with_reducible refine below_alloc ?_ _ | with_reducible refine Below.alloc ?_ (by first | omega | (simp; done) | (simp; omega)) _ | with_reducible refine Below.setCell ?_ (by first | omega | (simp; done) | (simp; omega)) _ | with_reducible refine below_setRow ?_ (by first | omega | (simp; done) | (simp; omega)) _))⟩
set_option maxRecDepth 100000 in
set_option maxHeartbeats 4000000 in
theorem rsub_e (an ad bn bd c er : Int) (w : World) (hq : (er != 0) = true) (HC : Hid (∀ W, Calls Try.prog 12 #[.agg #[.int .u64 an, .int .u64 ad], .agg #[.int .u64 bn, .int .u64 bd]] W fun e w' => e = .returned (.tuple #[.int .i64 c, .int .i64 er]) ∧ Below W.heap.size W w')) :
    Calls Try.prog 19 #[.agg #[.int .u64 an, .int .u64 ad], .agg #[.int .u64 bn, .int .u64 bd]] w fun e w' => e = .returned (.tuple #[.agg #[.int .u64 0, .int .u64 0], .int .i64 er]) ∧ Below w.heap.size w w' := by
  go_enter Try.func19, Try.ntmps19
  go_wp2_with fail
  refine (HC.out _).mono ?_
  rintro e w1 ⟨rfl, hb1⟩
  have hs1 := hb1.size
  try simp only [World.size_alloc, World.size_setCell] at hs1
  have A_1 : w1.heap[w.heap.size]? = some (.cells #[.int .u64 an, .int .u64 ad] 29 (0, 0)) := below_at hb1 (by first | omega | (simp; done) | (simp; omega)) (by (repeat (first | (with_reducible assumption) | (with_reducible exact alloc_at _ _) | ((with_reducible apply alloc_at'); (simp; done)) | (with_reducible apply alloc_at_lt) | (with_reducible apply heap_drew_at) | (with_reducible apply heap_drewN_at) | (with_reducible apply heap_setCell_same) | ((with_reducible apply heap_set_ne); (first | omega | (dsimp only; omega) | (simp; done) | (simp; omega))) | (with_reducible apply setRow_at) | ((with_reducible apply setRow_ne); (first | omega | (dsimp only; omega) | (simp; done) | (simp; omega))))))
  have B_1 : w1.heap[w.heap.size + 1]? = some (.cells #[.int .u64 bn, .int .u64 bd] 29 (0, 0)) := below_at hb1 (by first | omega | (simp; done) | (simp; omega)) (by (repeat (first | (with_reducible assumption) | (with_reducible exact alloc_at _ _) | ((with_reducible apply alloc_at'); (simp; done)) | (with_reducible apply alloc_at_lt) | (with_reducible apply heap_drew_at) | (with_reducible apply heap_drewN_at) | (with_reducible apply heap_setCell_same) | ((with_reducible apply heap_set_ne); (first | omega | (dsimp only; omega) | (simp; done) | (simp; omega))) | (with_reducible apply setRow_at) | ((with_reducible apply setRow_ne); (first | omega | (dsimp only; omega) | (simp; done) | (simp; omega))))))
  have R_1 : w1.heap[w.heap.size + 1 + 1]? = some (.cells #[.int .u64 0, .int .u64 0] 29 (0, 0)) := below_at hb1 (by first | omega | (simp; done) | (simp; omega)) (by (repeat (first | (with_reducible assumption) | (with_reducible exact alloc_at _ _) | ((with_reducible apply alloc_at'); (simp; done)) | (with_reducible apply alloc_at_lt) | (with_reducible apply heap_drew_at) | (with_reducible apply heap_drewN_at) | (with_reducible apply heap_setCell_same) | ((with_reducible apply heap_set_ne); (first | omega | (dsimp only; omega) | (simp; done) | (simp; omega))) | (with_reducible apply setRow_at) | ((with_reducible apply setRow_ne); (first | omega | (dsimp only; omega) | (simp; done) | (simp; omega))))))
  have B1 : Below w.heap.size w w1 := Below.trans (by repeat (first | with_reducible assumption | with_reducible exact Below.refl _ _ | with_reducible refine Below.drew ?_ | with_reducible refine below_drewN ?_ _ | with_reducible refine below_alloc ?_ _ | with_reducible refine Below.alloc ?_ (by first | omega | (simp; done) | (simp; omega)) _ | with_reducible refine Below.setCell ?_ (by first | omega | (simp; done) | (simp; omega)) _ | with_reducible refine below_setRow ?_ (by first | omega | (simp; done) | (simp; omega)) _)) (hb1.mono (by first | omega | (simp; done) | (simp; omega)))
  clear hb1
  have Ac0 : w1.cell? ⟨w.heap.size, 0, none⟩ = some (.int .u64 an) := (blk_cell A_1 0).trans rfl
  have Ac1 : w1.cell? ⟨w.heap.size, 1, none⟩ = some (.int .u64 ad) := (blk_cell A_1 1).trans rfl
  have Acf := blk_free A_1
  have Bc0 : w1.cell? ⟨w.heap.size + 1, 0, none⟩ = some (.int .u64 bn) := (blk_cell B_1 0).trans rfl
  have Bc1 : w1.cell? ⟨w.heap.size + 1, 1, none⟩ = some (.int .u64 bd) := (blk_cell B_1 1).trans rfl
  have Bcf := blk_free B_1
  have Rc0 : w1.cell? ⟨w.heap.size + 1 + 1, 0, none⟩ = some (.int .u64 0) := (blk_cell R_1 0).trans rfl
  have Rc1 : w1.cell? ⟨w.heap.size + 1 + 1, 1, none⟩ = some (.int .u64 0) := (blk_cell R_1 1).trans rfl
  have Rcf := blk_free R_1
  have Al1 : w.heap.size < w1.heap.size := by omega
  have Bl1 : w.heap.size + 1 < w1.heap.size := by omega
  have Rl1 : w.heap.size + 1 + 1 < w1.heap.size := by omega
  go_wp2
  refine ret_row2 rfl (w.heap.size + 1 + 1) #[.int .u64 0, .int .u64 0] 29 _ rfl Try.underlying29 rfl infoR' rfl (by apply Exists.intro; refine ⟨?_, ?_⟩; (focus ((repeat (first | (with_reducible assumption) | (with_reducible exact alloc_at _ _) | ((with_reducible apply alloc_at'); (simp; done)) | (with_reducible apply alloc_at_lt) | (with_reducible apply heap_drew_at) | (with_reducible apply heap_drewN_at) | (with_reducible apply heap_setCell_same) | ((with_reducible apply heap_set_ne); (first | omega | (dsimp only; omega) | (simp; done) | (simp; omega))) | (with_reducible apply setRow_at) | ((with_reducible apply setRow_ne); (first | omega | (dsimp only; omega) | (simp; done) | (simp; omega))))))); simp) ⟨rfl, (by repeat (first | with_reducible assumption | with_reducible exact Below.refl _ _ | with_reducible refine Below.drew ?_ | with_reducible refine below_drewN ?_ _ | with_reducible refine below_alloc ?_ _ | with_reducible refine Below.alloc ?_ (by first | omega | (simp; done) | (simp; omega)) _ | with_reducible refine Below.setCell ?_ (by first | omega | (simp; done) | (simp; omega)) _ | with_reducible refine below_setRow ?_ (by first | omega | (simp; done) | (simp; omega)) _))⟩
set_option maxRecDepth 100000 in
set_option maxHeartbeats 4000000 in
theorem rsub_n (an ad bn bd c : Int) (w : World) (hq : c < 0) (HC : Hid (∀ W, Calls Try.prog 12 #[.agg #[.int .u64 an, .int .u64 ad], .agg #[.int .u64 bn, .int .u64 bd]] W fun e w' => e = .returned (.tuple #[.int .i64 c, .int .i64 0]) ∧ Below W.heap.size W w')) :
    Calls Try.prog 19 #[.agg #[.int .u64 an, .int .u64 ad], .agg #[.int .u64 bn, .int .u64 bd]] w fun e w' => e = .returned (.tuple #[.agg #[.int .u64 0, .int .u64 0], .int .i64 2]) ∧ Below w.heap.size w w' := by
  go_enter Try.func19, Try.ntmps19
  go_wp2_with fail
  refine (HC.out _).mono ?_
  rintro e w1 ⟨rfl, hb1⟩
  have hs1 := hb1.size
  try simp only [World.size_alloc, World.size_setCell] at hs1
  have A_1 : w1.heap[w.heap.size]? = some (.cells #[.int .u64 an, .int .u64 ad] 29 (0, 0)) := below_at hb1 (by first | omega | (simp; done) | (simp; omega)) (by (repeat (first | (with_reducible assumption) | (with_reducible exact alloc_at _ _) | ((with_reducible apply alloc_at'); (simp; done)) | (with_reducible apply alloc_at_lt) | (with_reducible apply heap_drew_at) | (with_reducible apply heap_drewN_at) | (with_reducible apply heap_setCell_same) | ((with_reducible apply heap_set_ne); (first | omega | (dsimp only; omega) | (simp; done) | (simp; omega))) | (with_reducible apply setRow_at) | ((with_reducible apply setRow_ne); (first | omega | (dsimp only; omega) | (simp; done) | (simp; omega))))))
  have B_1 : w1.heap[w.heap.size + 1]? = some (.cells #[.int .u64 bn, .int .u64 bd] 29 (0, 0)) := below_at hb1 (by first | omega | (simp; done) | (simp; omega)) (by (repeat (first | (with_reducible assumption) | (with_reducible exact alloc_at _ _) | ((with_reducible apply alloc_at'); (simp; done)) | (with_reducible apply alloc_at_lt) | (with_reducible apply heap_drew_at) | (with_reducible apply heap_drewN_at) | (with_reducible apply heap_setCell_same) | ((with_reducible apply heap_set_ne); (first | omega | (dsimp only; omega) | (simp; done) | (simp; omega))) | (with_reducible apply setRow_at) | ((with_reducible apply setRow_ne); (first | omega | (dsimp only; omega) | (simp; done) | (simp; omega))))))
  have R_1 : w1.heap[w.heap.size + 1 + 1]? = some (.cells #[.int .u64 0, .int .u64 0] 29 (0, 0)) := below_at hb1 (by first | omega | (simp; done) | (simp; omega)) (by (repeat (first | (with_reducible assumption) | (with_reducible exact alloc_at _ _) | ((with_reducible apply alloc_at'); (simp; done)) | (with_reducible apply alloc_at_lt) | (with_reducible apply heap_drew_at) | (with_reducible apply heap_drewN_at) | (with_reducible apply heap_setCell_same) | ((with_reducible apply heap_set_ne); (first | omega | (dsimp only; omega) | (simp; done) | (simp; omega))) | (with_reducible apply setRow_at) | ((with_reducible apply setRow_ne); (first | omega | (dsimp only; omega) | (simp; done) | (simp; omega))))))
  have B1 : Below w.heap.size w w1 := Below.trans (by repeat (first | with_reducible assumption | with_reducible exact Below.refl _ _ | with_reducible refine Below.drew ?_ | with_reducible refine below_drewN ?_ _ | with_reducible refine below_alloc ?_ _ | with_reducible refine Below.alloc ?_ (by first | omega | (simp; done) | (simp; omega)) _ | with_reducible refine Below.setCell ?_ (by first | omega | (simp; done) | (simp; omega)) _ | with_reducible refine below_setRow ?_ (by first | omega | (simp; done) | (simp; omega)) _)) (hb1.mono (by first | omega | (simp; done) | (simp; omega)))
  clear hb1
  have Ac0 : w1.cell? ⟨w.heap.size, 0, none⟩ = some (.int .u64 an) := (blk_cell A_1 0).trans rfl
  have Ac1 : w1.cell? ⟨w.heap.size, 1, none⟩ = some (.int .u64 ad) := (blk_cell A_1 1).trans rfl
  have Acf := blk_free A_1
  have Bc0 : w1.cell? ⟨w.heap.size + 1, 0, none⟩ = some (.int .u64 bn) := (blk_cell B_1 0).trans rfl
  have Bc1 : w1.cell? ⟨w.heap.size + 1, 1, none⟩ = some (.int .u64 bd) := (blk_cell B_1 1).trans rfl
  have Bcf := blk_free B_1
  have Rc0 : w1.cell? ⟨w.heap.size + 1 + 1, 0, none⟩ = some (.int .u64 0) := (blk_cell R_1 0).trans rfl
  have Rc1 : w1.cell? ⟨w.heap.size + 1 + 1, 1, none⟩ = some (.int .u64 0) := (blk_cell R_1 1).trans rfl
  have Rcf := blk_free R_1
  have Al1 : w.heap.size < w1.heap.size := by omega
  have Bl1 : w.heap.size + 1 < w1.heap.size := by omega
  have Rl1 : w.heap.size + 1 + 1 < w1.heap.size := by omega
  go_wp2
  refine ret_row2 rfl (w.heap.size + 1 + 1) #[.int .u64 0, .int .u64 0] 29 _ rfl Try.underlying29 rfl infoR' rfl (by apply Exists.intro; refine ⟨?_, ?_⟩; (focus ((repeat (first | (with_reducible assumption) | (with_reducible exact alloc_at _ _) | ((with_reducible apply alloc_at'); (simp; done)) | (with_reducible apply alloc_at_lt) | (with_reducible apply heap_drew_at) | (with_reducible apply heap_drewN_at) | (with_reducible apply heap_setCell_same) | ((with_reducible apply heap_set_ne); (first | omega | (dsimp only; omega) | (simp; done) | (simp; omega))) | (with_reducible apply setRow_at) | ((with_reducible apply setRow_ne); (first | omega | (dsimp only; omega) | (simp; done) | (simp; omega))))))); simp) ⟨rfl, (by repeat (first | with_reducible assumption | with_reducible exact Below.refl _ _ | with_reducible refine Below.drew ?_ | with_reducible refine below_drewN ?_ _ | with_reducible refine below_alloc ?_ _ | with_reducible refine Below.alloc ?_ (by first | omega | (simp; done) | (simp; omega)) _ | with_reducible refine Below.setCell ?_ (by first | omega | (simp; done) | (simp; omega)) _ | with_reducible refine below_setRow ?_ (by first | omega | (simp; done) | (simp; omega)) _))⟩
set_option maxRecDepth 100000 in
set_option maxHeartbeats 4000000 in
theorem rsub_w (an ad bn bd c r0 r1 er : Int) (w : World) (hq : 0 ≤ c) (P1 : Hid (Wrd an)) (P2 : Hid (Wrd ad)) (P3 : Hid (Wrd bn)) (P4 : Hid (Wrd bd)) (HM : Hid (bn.toNat * ad.toNat ≤ an.toNat * bd.toNat)) (HC : Hid (∀ W, Calls Try.prog 12 #[.agg #[.int .u64 an, .int .u64 ad], .agg #[.int .u64 bn, .int .u64 bd]] W fun e w' => e = .returned (.tuple #[.int .i64 c, .int .i64 0]) ∧ Below W.heap.size W w')) (HL : Hid (∀ W, Calls Try.prog 29 #[.agg (bigA (an.toNat * bd.toNat - bn.toNat * ad.toNat)), .agg (bigA (ad.toNat * bd.toNat))] W fun e w' => e = .returned (.tuple #[.agg #[.int .u64 r0, .int .u64 r1], .int .i64 er]) ∧ Below W.heap.size W w')) :
    Calls Try.prog 19 #[.agg #[.int .u64 an, .int .u64 ad], .agg #[.int .u64 bn, .int .u64 bd]] w fun e w' => e = .returned (.tuple #[.agg #[.int .u64 r0, .int .u64 r1], .int .i64 er]) ∧ Below w.heap.size w w' := by
  go_enter Try.func19, Try.ntmps19
  go_wp2_with fail
  refine (HC.out _).mono ?_
  rintro e w1 ⟨rfl, hb1⟩
  have hs1 := hb1.size
  try simp only [World.size_alloc, World.size_setCell] at hs1
  have A_1 : w1.heap[w.heap.size]? = some (.cells #[.int .u64 an, .int .u64 ad] 29 (0, 0)) := below_at hb1 (by first | omega | (simp; done) | (simp; omega)) (by (repeat (first | (with_reducible assumption) | (with_reducible exact alloc_at _ _) | ((with_reducible apply alloc_at'); (simp; done)) | (with_reducible apply alloc_at_lt) | (with_reducible apply heap_drew_at) | (with_reducible apply heap_drewN_at) | (with_reducible apply heap_setCell_same) | ((with_reducible apply heap_set_ne); (first | omega | (dsimp only; omega) | (simp; done) | (simp; omega))) | (with_reducible apply setRow_at) | ((with_reducible apply setRow_ne); (first | omega | (dsimp only; omega) | (simp; done) | (simp; omega))))))
  have B_1 : w1.heap[w.heap.size + 1]? = some (.cells #[.int .u64 bn, .int .u64 bd] 29 (0, 0)) := below_at hb1 (by first | omega | (simp; done) | (simp; omega)) (by (repeat (first | (with_reducible assumption) | (with_reducible exact alloc_at _ _) | ((with_reducible apply alloc_at'); (simp; done)) | (with_reducible apply alloc_at_lt) | (with_reducible apply heap_drew_at) | (with_reducible apply heap_drewN_at) | (with_reducible apply heap_setCell_same) | ((with_reducible apply heap_set_ne); (first | omega | (dsimp only; omega) | (simp; done) | (simp; omega))) | (with_reducible apply setRow_at) | ((with_reducible apply setRow_ne); (first | omega | (dsimp only; omega) | (simp; done) | (simp; omega))))))
  have R_1 : w1.heap[w.heap.size + 1 + 1]? = some (.cells #[.int .u64 0, .int .u64 0] 29 (0, 0)) := below_at hb1 (by first | omega | (simp; done) | (simp; omega)) (by (repeat (first | (with_reducible assumption) | (with_reducible exact alloc_at _ _) | ((with_reducible apply alloc_at'); (simp; done)) | (with_reducible apply alloc_at_lt) | (with_reducible apply heap_drew_at) | (with_reducible apply heap_drewN_at) | (with_reducible apply heap_setCell_same) | ((with_reducible apply heap_set_ne); (first | omega | (dsimp only; omega) | (simp; done) | (simp; omega))) | (with_reducible apply setRow_at) | ((with_reducible apply setRow_ne); (first | omega | (dsimp only; omega) | (simp; done) | (simp; omega))))))
  have B1 : Below w.heap.size w w1 := Below.trans (by repeat (first | with_reducible assumption | with_reducible exact Below.refl _ _ | with_reducible refine Below.drew ?_ | with_reducible refine below_drewN ?_ _ | with_reducible refine below_alloc ?_ _ | with_reducible refine Below.alloc ?_ (by first | omega | (simp; done) | (simp; omega)) _ | with_reducible refine Below.setCell ?_ (by first | omega | (simp; done) | (simp; omega)) _ | with_reducible refine below_setRow ?_ (by first | omega | (simp; done) | (simp; omega)) _)) (hb1.mono (by first | omega | (simp; done) | (simp; omega)))
  clear hb1
  have Ac0 : w1.cell? ⟨w.heap.size, 0, none⟩ = some (.int .u64 an) := (blk_cell A_1 0).trans rfl
  have Ac1 : w1.cell? ⟨w.heap.size, 1, none⟩ = some (.int .u64 ad) := (blk_cell A_1 1).trans rfl
  have Acf := blk_free A_1
  have Bc0 : w1.cell? ⟨w.heap.size + 1, 0, none⟩ = some (.int .u64 bn) := (blk_cell B_1 0).trans rfl
  have Bc1 : w1.cell? ⟨w.heap.size + 1, 1, none⟩ = some (.int .u64 bd) := (blk_cell B_1 1).trans rfl
  have Bcf := blk_free B_1
  have Rc0 : w1.cell? ⟨w.heap.size + 1 + 1, 0, none⟩ = some (.int .u64 0) := (blk_cell R_1 0).trans rfl
  have Rc1 : w1.cell? ⟨w.heap.size + 1 + 1, 1, none⟩ = some (.int .u64 0) := (blk_cell R_1 1).trans rfl
  have Rcf := blk_free R_1
  have Al1 : w.heap.size < w1.heap.size := by omega
  have Bl1 : w.heap.size + 1 < w1.heap.size := by omega
  have Rl1 : w.heap.size + 1 + 1 < w1.heap.size := by omega
  go_wp2_with fail
  have Ae0 : ∀ lx_ : Lat w1.heap.size w1, lx_.w.cell? ⟨w.heap.size, 0, none⟩ = some (.int .u64 an) := fun lx_ => by rw [lx_.cell _ _ Al1]; exact Ac0
  have Ae1 : ∀ lx_ : Lat w1.heap.size w1, lx_.w.cell? ⟨w.heap.size, 1, none⟩ = some (.int .u64 ad) := fun lx_ => by rw [lx_.cell _ _ Al1]; exact Ac1
  have Be0 : ∀ lx_ : Lat w1.heap.size w1, lx_.w.cell? ⟨w.heap.size + 1, 0, none⟩ = some (.int .u64 bn) := fun lx_ => by rw [lx_.cell _ _ Bl1]; exact Bc0
  have Be1 : ∀ lx_ : Lat w1.heap.size w1, lx_.w.cell? ⟨w.heap.size + 1, 1, none⟩ = some (.int .u64 bd) := fun lx_ => by rw [lx_.cell _ _ Bl1]; exact Bc1
  refine wp_region_lat_tail 22 (by kernel_rfl) (by kernel_rfl) ?_
  simp only [List.take_succ_cons, List.take_zero, List.drop_succ_cons, List.drop_zero]
  repeat (go_big_quiet_step (first | (go_at_call 26; exact lat_of (Nat.le_refl _) (of_int _ _ (by assumption))) | (go_at_call 27; exact lat_of (Nat.le_refl _) (times_int _ _ _ (by assumption))) | (go_at_call 30; exact lat_of (Nat.le_refl _) (plus_any _ _ _)) | (go_at_call 31; exact lat_of (Nat.le_refl _) (minus_any _ _ HM _)) | (go_at_call 29; exact lat_of (Nat.le_refl _) (HL.out _))))
  refine wpQuiet_nil ?_
  rintro w2 ⟨x2, hx2⟩
  have hb2 := x2.h
  rw [← hx2] at hb2
  clear hx2 x2 Ae0 Ae1 Be0 Be1
  have hs2 := hb2.size
  try simp only [World.size_alloc, World.size_setCell] at hs2
  have A_2 : w2.heap[w.heap.size]? = some (.cells #[.int .u64 an, .int .u64 ad] 29 (0, 0)) := below_at hb2 (by first | omega | (simp; done) | (simp; omega)) (by (repeat (first | (with_reducible assumption) | (with_reducible exact alloc_at _ _) | ((with_reducible apply alloc_at'); (simp; done)) | (with_reducible apply alloc_at_lt) | (with_reducible apply heap_drew_at) | (with_reducible apply heap_drewN_at) | (with_reducible apply heap_setCell_same) | ((with_reducible apply heap_set_ne); (first | omega | (dsimp only; omega) | (simp; done) | (simp; omega))) | (with_reducible apply setRow_at) | ((with_reducible apply setRow_ne); (first | omega | (dsimp only; omega) | (simp; done) | (simp; omega))))))
  have B_2 : w2.heap[w.heap.size + 1]? = some (.cells #[.int .u64 bn, .int .u64 bd] 29 (0, 0)) := below_at hb2 (by first | omega | (simp; done) | (simp; omega)) (by (repeat (first | (with_reducible assumption) | (with_reducible exact alloc_at _ _) | ((with_reducible apply alloc_at'); (simp; done)) | (with_reducible apply alloc_at_lt) | (with_reducible apply heap_drew_at) | (with_reducible apply heap_drewN_at) | (with_reducible apply heap_setCell_same) | ((with_reducible apply heap_set_ne); (first | omega | (dsimp only; omega) | (simp; done) | (simp; omega))) | (with_reducible apply setRow_at) | ((with_reducible apply setRow_ne); (first | omega | (dsimp only; omega) | (simp; done) | (simp; omega))))))
  have R_2 : w2.heap[w.heap.size + 1 + 1]? = some (.cells #[.int .u64 0, .int .u64 0] 29 (0, 0)) := below_at hb2 (by first | omega | (simp; done) | (simp; omega)) (by (repeat (first | (with_reducible assumption) | (with_reducible exact alloc_at _ _) | ((with_reducible apply alloc_at'); (simp; done)) | (with_reducible apply alloc_at_lt) | (with_reducible apply heap_drew_at) | (with_reducible apply heap_drewN_at) | (with_reducible apply heap_setCell_same) | ((with_reducible apply heap_set_ne); (first | omega | (dsimp only; omega) | (simp; done) | (simp; omega))) | (with_reducible apply setRow_at) | ((with_reducible apply setRow_ne); (first | omega | (dsimp only; omega) | (simp; done) | (simp; omega))))))
  have B2 : Below w.heap.size w w2 := Below.trans (by repeat (first | with_reducible assumption | with_reducible exact Below.refl _ _ | with_reducible refine Below.drew ?_ | with_reducible refine below_drewN ?_ _ | with_reducible refine below_alloc ?_ _ | with_reducible refine Below.alloc ?_ (by first | omega | (simp; done) | (simp; omega)) _ | with_reducible refine Below.setCell ?_ (by first | omega | (simp; done) | (simp; omega)) _ | with_reducible refine below_setRow ?_ (by first | omega | (simp; done) | (simp; omega)) _)) (hb2.mono (by first | omega | (simp; done) | (simp; omega)))
  clear hb2 A_1 B_1 R_1
  clear Ac0 Ac1 Acf
  clear Bc0 Bc1 Bcf
  clear Rc0 Rc1 Rcf
  have Ac0 : w2.cell? ⟨w.heap.size, 0, none⟩ = some (.int .u64 an) := (blk_cell A_2 0).trans rfl
  have Ac1 : w2.cell? ⟨w.heap.size, 1, none⟩ = some (.int .u64 ad) := (blk_cell A_2 1).trans rfl
  have Acf := blk_free A_2
  have Bc0 : w2.cell? ⟨w.heap.size + 1, 0, none⟩ = some (.int .u64 bn) := (blk_cell B_2 0).trans rfl
  have Bc1 : w2.cell? ⟨w.heap.size + 1, 1, none⟩ = some (.int .u64 bd) := (blk_cell B_2 1).trans rfl
  have Bcf := blk_free B_2
  have Rc0 : w2.cell? ⟨w.heap.size + 1 + 1, 0, none⟩ = some (.int .u64 0) := (blk_cell R_2 0).trans rfl
  have Rc1 : w2.cell? ⟨w.heap.size + 1 + 1, 1, none⟩ = some (.int .u64 0) := (blk_cell R_2 1).trans rfl
  have Rcf := blk_free R_2
  have Al2 : w.heap.size < w2.heap.size := by omega
  have Bl2 : w.heap.size + 1 < w2.heap.size := by omega
  have Rl2 : w.heap.size + 1 + 1 < w2.heap.size := by omega
  go_wp2
  refine ret_row2 rfl (w.heap.size + 1 + 1) #[.int .u64 r0, .int .u64 r1] 29 _ rfl Try.underlying29 rfl infoR' rfl (by apply Exists.intro; refine ⟨?_, ?_⟩; (focus ((repeat (first | (with_reducible assumption) | (with_reducible exact alloc_at _ _) | ((with_reducible apply alloc_at'); (simp; done)) | (with_reducible apply alloc_at_lt) | (with_reducible apply heap_drew_at) | (with_reducible apply heap_drewN_at) | (with_reducible apply heap_setCell_same) | ((with_reducible apply heap_set_ne); (first | omega | (dsimp only; omega) | (simp; done) | (simp; omega))) | (with_reducible apply setRow_at) | ((with_reducible apply setRow_ne); (first | omega | (dsimp only; omega) | (simp; done) | (simp; omega))))))); simp) ⟨rfl, (by repeat (first | with_reducible assumption | with_reducible exact Below.refl _ _ | with_reducible refine Below.drew ?_ | with_reducible refine below_drewN ?_ _ | with_reducible refine below_alloc ?_ _ | with_reducible refine Below.alloc ?_ (by first | omega | (simp; done) | (simp; omega)) _ | with_reducible refine Below.setCell ?_ (by first | omega | (simp; done) | (simp; omega)) _ | with_reducible refine below_setRow ?_ (by first | omega | (simp; done) | (simp; omega)) _))⟩
end Go.Proofs.Ytbkopmgfkokmgaa
