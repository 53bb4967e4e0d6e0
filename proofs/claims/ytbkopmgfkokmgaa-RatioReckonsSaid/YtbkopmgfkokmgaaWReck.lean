/- The walk of RatioReckons: every two fractions have the exact sum, difference and product, or are refused. Asked: that the numbers are words. -/
import Derived.Test.YtbkopmgfkokmgaaRefs2
import Derived.Test.YtbkopmgfkokmgaaSame
namespace Go.Proofs.Ytbkopmgfkokmgaa
open Go.RowKit
set_option maxRecDepth 100000 in
set_option maxHeartbeats 8000000 in
theorem reckons_w (an ad bn bd x0 x1 x2 z0 z1 z2 p0 p1 p2 : Int) (w : World)
    (HAdd : Hid (∀ W, Calls Try.prog 15 #[.agg #[.int .u64 an, .int .u64 ad], .agg #[.int .u64 bn, .int .u64 bd]] W fun e w' => e = .returned (.tuple #[.agg #[.int .u64 x0, .int .u64 x1], .int .i64 x2]) ∧ Below W.heap.size W w')) (RAdd : Hid (∀ W, Calls Try.prog 17 #[.agg #[.int .u64 an, .int .u64 ad], .agg #[.int .u64 bn, .int .u64 bd]] W fun e w' => e = .returned (.tuple #[.agg #[.int .u64 x0, .int .u64 x1], .int .i64 x2]) ∧ Below W.heap.size W w'))
    (HSub : Hid (∀ W, Calls Try.prog 18 #[.agg #[.int .u64 an, .int .u64 ad], .agg #[.int .u64 bn, .int .u64 bd]] W fun e w' => e = .returned (.tuple #[.agg #[.int .u64 z0, .int .u64 z1], .int .i64 z2]) ∧ Below W.heap.size W w')) (RSub : Hid (∀ W, Calls Try.prog 19 #[.agg #[.int .u64 an, .int .u64 ad], .agg #[.int .u64 bn, .int .u64 bd]] W fun e w' => e = .returned (.tuple #[.agg #[.int .u64 z0, .int .u64 z1], .int .i64 z2]) ∧ Below W.heap.size W w'))
    (HMul : Hid (∀ W, Calls Try.prog 16 #[.agg #[.int .u64 an, .int .u64 ad], .agg #[.int .u64 bn, .int .u64 bd]] W fun e w' => e = .returned (.tuple #[.agg #[.int .u64 p0, .int .u64 p1], .int .i64 p2]) ∧ Below W.heap.size W w')) (RMul : Hid (∀ W, Calls Try.prog 20 #[.agg #[.int .u64 an, .int .u64 ad], .agg #[.int .u64 bn, .int .u64 bd]] W fun e w' => e = .returned (.tuple #[.agg #[.int .u64 p0, .int .u64 p1], .int .i64 p2]) ∧ Below W.heap.size W w')) :
    Calls Try.prog 6 #[.agg #[.int .u64 an, .int .u64 ad], .agg #[.int .u64 bn, .int .u64 bd]] w fun e w' => e = .returned (.bool true) ∧ Below w.heap.size w w' := by
  go_enter Try.func6, Try.ntmps6
  go_wp2_with fail
  refine (awake2_any _).mono ?_
  rintro e w1 ⟨rfl, hb1⟩
  have hs1 := hb1.size
  try simp only [World.size_alloc, World.size_setCell] at hs1
  have A_1 : w1.heap[w.heap.size]? = some (.cells #[.int .u64 an, .int .u64 ad] 24 (0, 0)) := below_at hb1 (by first | omega | (simp; done) | (simp; omega)) (by (repeat (first | (with_reducible assumption) | (with_reducible exact alloc_at _ _) | ((with_reducible apply alloc_at'); (simp; done)) | (with_reducible apply alloc_at_lt) | (with_reducible apply heap_drew_at) | (with_reducible apply heap_drewN_at) | (with_reducible apply heap_setCell_same) | ((with_reducible apply heap_set_ne); (first | omega | (dsimp only; omega) | (simp; done) | (simp; omega))) | (with_reducible apply setRow_at) | ((with_reducible apply setRow_ne); (first | omega | (dsimp only; omega) | (simp; done) | (simp; omega))))))
  have B_1 : w1.heap[w.heap.size + 1]? = some (.cells #[.int .u64 bn, .int .u64 bd] 24 (0, 0)) := below_at hb1 (by first | omega | (simp; done) | (simp; omega)) (by (repeat (first | (with_reducible assumption) | (with_reducible exact alloc_at _ _) | ((with_reducible apply alloc_at'); (simp; done)) | (with_reducible apply alloc_at_lt) | (with_reducible apply heap_drew_at) | (with_reducible apply heap_drewN_at) | (with_reducible apply heap_setCell_same) | ((with_reducible apply heap_set_ne); (first | omega | (dsimp only; omega) | (simp; done) | (simp; omega))) | (with_reducible apply setRow_at) | ((with_reducible apply setRow_ne); (first | omega | (dsimp only; omega) | (simp; done) | (simp; omega))))))
  have B1 : Below w.heap.size w w1 := Below.trans (by repeat (first | with_reducible assumption | with_reducible exact Below.refl _ _ | with_reducible refine Below.drew ?_ | with_reducible refine below_drewN ?_ _ | with_reducible refine below_alloc ?_ _ | with_reducible refine Below.alloc ?_ (by first | omega | (simp; done) | (simp; omega)) _ | with_reducible refine Below.setCell ?_ (by first | omega | (simp; done) | (simp; omega)) _ | with_reducible refine below_setRow ?_ (by first | omega | (simp; done) | (simp; omega)) _)) (hb1.mono (by first | omega | (simp; done) | (simp; omega)))
  clear hb1
  have Ac0 : w1.cell? ⟨w.heap.size, 0, none⟩ = some (.int .u64 an) := (blk_cell A_1 0).trans rfl
  have Ac1 : w1.cell? ⟨w.heap.size, 1, none⟩ = some (.int .u64 ad) := (blk_cell A_1 1).trans rfl
  have Acf := blk_free A_1
  have Bc0 : w1.cell? ⟨w.heap.size + 1, 0, none⟩ = some (.int .u64 bn) := (blk_cell B_1 0).trans rfl
  have Bc1 : w1.cell? ⟨w.heap.size + 1, 1, none⟩ = some (.int .u64 bd) := (blk_cell B_1 1).trans rfl
  have Bcf := blk_free B_1
  have Al1 : w.heap.size < w1.heap.size := by omega
  have Bl1 : w.heap.size + 1 < w1.heap.size := by omega
  go_wp2_with fail
  refine (HAdd.out _).mono ?_
  rintro e w2 ⟨rfl, hb2⟩
  have hs2 := hb2.size
  try simp only [World.size_alloc, World.size_setCell] at hs2
  have A_2 : w2.heap[w.heap.size]? = some (.cells #[.int .u64 an, .int .u64 ad] 24 (0, 0)) := below_at hb2 (by first | omega | (simp; done) | (simp; omega)) (by (repeat (first | (with_reducible assumption) | (with_reducible exact alloc_at _ _) | ((with_reducible apply alloc_at'); (simp; done)) | (with_reducible apply alloc_at_lt) | (with_reducible apply heap_drew_at) | (with_reducible apply heap_drewN_at) | (with_reducible apply heap_setCell_same) | ((with_reducible apply heap_set_ne); (first | omega | (dsimp only; omega) | (simp; done) | (simp; omega))) | (with_reducible apply setRow_at) | ((with_reducible apply setRow_ne); (first | omega | (dsimp only; omega) | (simp; done) | (simp; omega))))))
  have B_2 : w2.heap[w.heap.size + 1]? = some (.cells #[.int .u64 bn, .int .u64 bd] 24 (0, 0)) := below_at hb2 (by first | omega | (simp; done) | (simp; omega)) (by (repeat (first | (with_reducible assumption) | (with_reducible exact alloc_at _ _) | ((with_reducible apply alloc_at'); (simp; done)) | (with_reducible apply alloc_at_lt) | (with_reducible apply heap_drew_at) | (with_reducible apply heap_drewN_at) | (with_reducible apply heap_setCell_same) | ((with_reducible apply heap_set_ne); (first | omega | (dsimp only; omega) | (simp; done) | (simp; omega))) | (with_reducible apply setRow_at) | ((with_reducible apply setRow_ne); (first | omega | (dsimp only; omega) | (simp; done) | (simp; omega))))))
  have B2 : Below w.heap.size w w2 := Below.trans (by repeat (first | with_reducible assumption | with_reducible exact Below.refl _ _ | with_reducible refine Below.drew ?_ | with_reducible refine below_drewN ?_ _ | with_reducible refine below_alloc ?_ _ | with_reducible refine Below.alloc ?_ (by first | omega | (simp; done) | (simp; omega)) _ | with_reducible refine Below.setCell ?_ (by first | omega | (simp; done) | (simp; omega)) _ | with_reducible refine below_setRow ?_ (by first | omega | (simp; done) | (simp; omega)) _)) (hb2.mono (by first | omega | (simp; done) | (simp; omega)))
  clear hb2 A_1 B_1
  clear Ac0 Ac1 Acf
  clear Bc0 Bc1 Bcf
  have Ac0 : w2.cell? ⟨w.heap.size, 0, none⟩ = some (.int .u64 an) := (blk_cell A_2 0).trans rfl
  have Ac1 : w2.cell? ⟨w.heap.size, 1, none⟩ = some (.int .u64 ad) := (blk_cell A_2 1).trans rfl
  have Acf := blk_free A_2
  have Bc0 : w2.cell? ⟨w.heap.size + 1, 0, none⟩ = some (.int .u64 bn) := (blk_cell B_2 0).trans rfl
  have Bc1 : w2.cell? ⟨w.heap.size + 1, 1, none⟩ = some (.int .u64 bd) := (blk_cell B_2 1).trans rfl
  have Bcf := blk_free B_2
  have Al2 : w.heap.size < w2.heap.size := by omega
  have Bl2 : w.heap.size + 1 < w2.heap.size := by omega
  go_wp2_with fail
  obtain ⟨w3, hw3⟩ : ∃ wx_ : World, wx_ = w2.alloc (.cells #[.int .u64 x0, .int .u64 x1] 24) := ⟨_, rfl⟩
  rw [← hw3]
  have B3 : Below w.heap.size w w3 := by rw [hw3]; exact (by repeat (first | with_reducible assumption | with_reducible exact Below.refl _ _ | with_reducible refine Below.drew ?_ | with_reducible refine below_drewN ?_ _ | with_reducible refine below_alloc ?_ _ | with_reducible refine Below.alloc ?_ (by first | omega | (simp; done) | (simp; omega)) _ | with_reducible refine Below.setCell ?_ (by first | omega | (simp; done) | (simp; omega)) _ | with_reducible refine below_setRow ?_ (by first | omega | (simp; done) | (simp; omega)) _))
  have A_3 : w3.heap[w.heap.size]? = some (.cells #[.int .u64 an, .int .u64 ad] 24 (0, 0)) := by rw [hw3]; exact at_of (by apply Exists.intro; refine ⟨?_, ?_⟩; (focus ((repeat (first | (with_reducible assumption) | (with_reducible exact alloc_at _ _) | ((with_reducible apply alloc_at'); (simp; done)) | (with_reducible apply alloc_at_lt) | (with_reducible apply heap_drew_at) | (with_reducible apply heap_drewN_at) | (with_reducible apply heap_setCell_same) | ((with_reducible apply heap_set_ne); (first | omega | (dsimp only; omega) | (simp; done) | (simp; omega))) | (with_reducible apply setRow_at) | ((with_reducible apply setRow_ne); (first | omega | (dsimp only; omega) | (simp; done) | (simp; omega))))))); simp)
  have B_3 : w3.heap[w.heap.size + 1]? = some (.cells #[.int .u64 bn, .int .u64 bd] 24 (0, 0)) := by rw [hw3]; exact at_of (by apply Exists.intro; refine ⟨?_, ?_⟩; (focus ((repeat (first | (with_reducible assumption) | (with_reducible exact alloc_at _ _) | ((with_reducible apply alloc_at'); (simp; done)) | (with_reducible apply alloc_at_lt) | (with_reducible apply heap_drew_at) | (with_reducible apply heap_drewN_at) | (with_reducible apply heap_setCell_same) | ((with_reducible apply heap_set_ne); (first | omega | (dsimp only; omega) | (simp; done) | (simp; omega))) | (with_reducible apply setRow_at) | ((with_reducible apply setRow_ne); (first | omega | (dsimp only; omega) | (simp; done) | (simp; omega))))))); simp)
  have X1_3 : w3.heap[w2.heap.size]? = some (.cells #[.int .u64 x0, .int .u64 x1] 24 (0, 0)) := by rw [hw3]; exact at_of (by apply Exists.intro; refine ⟨?_, ?_⟩; (focus ((repeat (first | (with_reducible assumption) | (with_reducible exact alloc_at _ _) | ((with_reducible apply alloc_at'); (simp; done)) | (with_reducible apply alloc_at_lt) | (with_reducible apply heap_drew_at) | (with_reducible apply heap_drewN_at) | (with_reducible apply heap_setCell_same) | ((with_reducible apply heap_set_ne); (first | omega | (dsimp only; omega) | (simp; done) | (simp; omega))) | (with_reducible apply setRow_at) | ((with_reducible apply setRow_ne); (first | omega | (dsimp only; omega) | (simp; done) | (simp; omega))))))); simp)
  clear hw3
  have Ac0 : w3.cell? ⟨w.heap.size, 0, none⟩ = some (.int .u64 an) := (blk_cell A_3 0).trans rfl
  have Ac1 : w3.cell? ⟨w.heap.size, 1, none⟩ = some (.int .u64 ad) := (blk_cell A_3 1).trans rfl
  have Acf := blk_free A_3
  have Bc0 : w3.cell? ⟨w.heap.size + 1, 0, none⟩ = some (.int .u64 bn) := (blk_cell B_3 0).trans rfl
  have Bc1 : w3.cell? ⟨w.heap.size + 1, 1, none⟩ = some (.int .u64 bd) := (blk_cell B_3 1).trans rfl
  have Bcf := blk_free B_3
  have X1c0 : w3.cell? ⟨w2.heap.size, 0, none⟩ = some (.int .u64 x0) := (blk_cell X1_3 0).trans rfl
  have X1c1 : w3.cell? ⟨w2.heap.size, 1, none⟩ = some (.int .u64 x1) := (blk_cell X1_3 1).trans rfl
  have X1cf := blk_free X1_3
  have Al3 : w.heap.size < w3.heap.size := lt_of_at A_3
  have Bl3 : w.heap.size + 1 < w3.heap.size := lt_of_at B_3
  have X1l3 : w2.heap.size < w3.heap.size := lt_of_at X1_3
  go_upto_region 4 with fail
  go_cut [7, 8] (fun s7_ s8_ wx => ∃ xY1 : Nat, s7_ = .pointer (some ⟨xY1, 0, none⟩) ∧ s8_ = .int .i64 x2 ∧ Below w3.heap.size w3 wx ∧ wx.heap[xY1]? = some (.cells #[.int .u64 x0, .int .u64 x1] 29 (0, 0)))
  case first =>
    go_region_held3 (fun w' => Below w3.heap.size w3 w' ∧ (∀ b o, b < w3.heap.size → w'.cell? ⟨b, o, none⟩ = w3.cell? ⟨b, o, none⟩) ∧ ∀ b o, b < w3.heap.size → w'.frozen? ⟨b, o, none⟩ = w3.frozen? ⟨b, o, none⟩) (first | ((try go_split_ands); (try dsimp only); refine same_of ?_; (repeat (first | with_reducible assumption | with_reducible exact Below.refl _ _ | with_reducible refine Below.drew ?_ | with_reducible refine below_drewN ?_ _ | with_reducible refine below_alloc ?_ _ | with_reducible refine Below.alloc ?_ (by first | omega | (simp; done) | (simp; omega)) _ | with_reducible refine Below.setCell ?_ (by first | omega | (simp; done) | (simp; omega)) _ | with_reducible refine below_setRow ?_ (by first | omega | (simp; done) | (simp; omega)) _)); done) | ((try go_split_ands); (try dsimp only); refine same_of ?_; (repeat (first | with_reducible refine below_call ?_ hbPA1 | with_reducible refine below_call ?_ hbPB1 | with_reducible refine below_call ?_ hbRR1 | with_reducible assumption | with_reducible exact Below.refl _ _ | with_reducible refine Below.drew ?_ | with_reducible refine below_alloc ?_ _ | with_reducible refine Below.setCell ?_ (by (try have qz_hbPA1 := hbPA1.size); (try simp only [World.size_alloc, World.size_setCell, heap_drew] at qz_hbPA1); (try have qz_hbPB1 := hbPB1.size); (try simp only [World.size_alloc, World.size_setCell, heap_drew] at qz_hbPB1); (try have qz_hbRR1 := hbRR1.size); (try simp only [World.size_alloc, World.size_setCell, heap_drew] at qz_hbRR1); (try (obtain ⟨qy_hbPA1, -, -⟩ : Below _ _ wPA1 ∧ _ ∧ _ := by assumption; have qx_hbPA1 := qy_hbPA1.size)); (try (obtain ⟨qy_hbPB1, -, -⟩ : Below _ _ wPB1 ∧ _ ∧ _ := by assumption; have qx_hbPB1 := qy_hbPB1.size)); (try (obtain ⟨qy_hbRR1, -, -⟩ : Below _ _ wRR1 ∧ _ ∧ _ := by assumption; have qx_hbRR1 := qy_hbRR1.size)); first | omega | (dsimp only; omega)) _)); done)) (first | (go_at_call_of 13 (Value.agg #[Value.int IntKind.u64 an, Value.int IntKind.u64 ad]); refine (plain_any _ _ _).mono ?_; rintro e wPA1 ⟨rfl, hbPA1⟩; obtain ⟨hcPA1, hfPA1⟩ := bcell hbPA1; have hsPA1 := hbPA1.size; (try simp only [World.size_alloc, World.size_setCell, heap_drew] at hsPA1); (try have hlPA1_w3_0 : w3.heap.size < wPA1.heap.size := by omega)) | (go_at_call_of 13 (Value.agg #[Value.int IntKind.u64 bn, Value.int IntKind.u64 bd]); refine (plain_any _ _ _).mono ?_; rintro e wPB1 ⟨rfl, hbPB1⟩; obtain ⟨hcPB1, hfPB1⟩ := bcell hbPB1; have hsPB1 := hbPB1.size; (try simp only [World.size_alloc, World.size_setCell, heap_drew] at hsPB1); (try have hlPB1_w3_0 : w3.heap.size < wPB1.heap.size := by omega); (try have hlPB1_wPA1_0 : wPA1.heap.size < wPB1.heap.size := by omega)) | (go_at_call_of 17 (Value.agg #[Value.int IntKind.u64 an, Value.int IntKind.u64 ad]); refine (RAdd.out _).mono ?_; rintro e wRR1 ⟨rfl, hbRR1⟩; obtain ⟨hcRR1, hfRR1⟩ := bcell hbRR1; have hsRR1 := hbRR1.size; (try simp only [World.size_alloc, World.size_setCell, heap_drew] at hsRR1); (try have hlRR1_w3_0 : w3.heap.size < wRR1.heap.size := by omega); (try have hlRR1_wPA1_0 : wPA1.heap.size < wRR1.heap.size := by omega); (try have hlRR1_wPB1_0 : wPB1.heap.size < wRR1.heap.size := by omega)))
    all_goals
      go_wp2_with fail
      obtain ⟨hb98, -, -⟩ : Below w3.heap.size w3 _ ∧ _ ∧ _ := by assumption
      go_meet
      exact ⟨_, rfl, by first | rfl | simp, (by repeat (first | with_reducible assumption | with_reducible exact Below.refl _ _ | with_reducible refine Below.drew ?_ | with_reducible refine below_drewN ?_ _ | with_reducible refine below_alloc ?_ _ | with_reducible refine Below.alloc ?_ (by first | omega | (simp; done) | (simp; omega)) _ | with_reducible refine Below.setCell ?_ (by first | omega | (simp; done) | (simp; omega)) _ | with_reducible refine below_setRow ?_ (by first | omega | (simp; done) | (simp; omega)) _)), at_of (by apply Exists.intro; refine ⟨?_, ?_⟩; (focus ((repeat (first | ((with_reducible refine below_at hbPA1 ?_ ?_); (focus (first | omega | (dsimp only; omega) | (simp; done) | (simp; omega)))) | ((with_reducible refine below_at hbPB1 ?_ ?_); (focus (first | omega | (dsimp only; omega) | (simp; done) | (simp; omega)))) | ((with_reducible refine below_at hbRR1 ?_ ?_); (focus (first | omega | (dsimp only; omega) | (simp; done) | (simp; omega)))) | (with_reducible assumption) | (with_reducible exact alloc_at _ _) | ((with_reducible apply alloc_at'); (simp; done)) | (with_reducible apply alloc_at_lt) | (with_reducible apply heap_drew_at) | (with_reducible apply heap_drewN_at) | (with_reducible apply heap_setCell_same) | ((with_reducible apply heap_set_ne); (first | omega | (dsimp only; omega) | (simp; done) | (simp; omega))) | (with_reducible apply setRow_at) | ((with_reducible apply setRow_ne); (first | omega | (dsimp only; omega) | (simp; done) | (simp; omega))))))); simp)⟩
  case rest =>
    obtain ⟨xY1, rfl, rfl, hb4, Y1_4⟩ := hcut
    obtain ⟨w4, rfl⟩ : ∃ wx_ : World, wx_ = wc := ⟨_, rfl⟩
    have hs4 := hb4.size
    try simp only [World.size_alloc, World.size_setCell] at hs4
    have A_4 : w4.heap[w.heap.size]? = some (.cells #[.int .u64 an, .int .u64 ad] 24 (0, 0)) := below_at hb4 (by first | omega | (simp; done) | (simp; omega)) (by (repeat (first | (with_reducible assumption) | (with_reducible exact alloc_at _ _) | ((with_reducible apply alloc_at'); (simp; done)) | (with_reducible apply alloc_at_lt) | (with_reducible apply heap_drew_at) | (with_reducible apply heap_drewN_at) | (with_reducible apply heap_setCell_same) | ((with_reducible apply heap_set_ne); (first | omega | (dsimp only; omega) | (simp; done) | (simp; omega))) | (with_reducible apply setRow_at) | ((with_reducible apply setRow_ne); (first | omega | (dsimp only; omega) | (simp; done) | (simp; omega))))))
    have B_4 : w4.heap[w.heap.size + 1]? = some (.cells #[.int .u64 bn, .int .u64 bd] 24 (0, 0)) := below_at hb4 (by first | omega | (simp; done) | (simp; omega)) (by (repeat (first | (with_reducible assumption) | (with_reducible exact alloc_at _ _) | ((with_reducible apply alloc_at'); (simp; done)) | (with_reducible apply alloc_at_lt) | (with_reducible apply heap_drew_at) | (with_reducible apply heap_drewN_at) | (with_reducible apply heap_setCell_same) | ((with_reducible apply heap_set_ne); (first | omega | (dsimp only; omega) | (simp; done) | (simp; omega))) | (with_reducible apply setRow_at) | ((with_reducible apply setRow_ne); (first | omega | (dsimp only; omega) | (simp; done) | (simp; omega))))))
    have X1_4 : w4.heap[w2.heap.size]? = some (.cells #[.int .u64 x0, .int .u64 x1] 24 (0, 0)) := below_at hb4 (by first | omega | (simp; done) | (simp; omega)) (by (repeat (first | (with_reducible assumption) | (with_reducible exact alloc_at _ _) | ((with_reducible apply alloc_at'); (simp; done)) | (with_reducible apply alloc_at_lt) | (with_reducible apply heap_drew_at) | (with_reducible apply heap_drewN_at) | (with_reducible apply heap_setCell_same) | ((with_reducible apply heap_set_ne); (first | omega | (dsimp only; omega) | (simp; done) | (simp; omega))) | (with_reducible apply setRow_at) | ((with_reducible apply setRow_ne); (first | omega | (dsimp only; omega) | (simp; done) | (simp; omega))))))
    have B4 : Below w.heap.size w w4 := Below.trans (by repeat (first | with_reducible assumption | with_reducible exact Below.refl _ _ | with_reducible refine Below.drew ?_ | with_reducible refine below_drewN ?_ _ | with_reducible refine below_alloc ?_ _ | with_reducible refine Below.alloc ?_ (by first | omega | (simp; done) | (simp; omega)) _ | with_reducible refine Below.setCell ?_ (by first | omega | (simp; done) | (simp; omega)) _ | with_reducible refine below_setRow ?_ (by first | omega | (simp; done) | (simp; omega)) _)) (hb4.mono (by first | omega | (simp; done) | (simp; omega)))
    clear hb4 A_3 B_3 X1_3
    clear Ac0 Ac1 Acf
    clear Bc0 Bc1 Bcf
    clear X1c0 X1c1 X1cf
    have Ac0 : w4.cell? ⟨w.heap.size, 0, none⟩ = some (.int .u64 an) := (blk_cell A_4 0).trans rfl
    have Ac1 : w4.cell? ⟨w.heap.size, 1, none⟩ = some (.int .u64 ad) := (blk_cell A_4 1).trans rfl
    have Acf := blk_free A_4
    have Bc0 : w4.cell? ⟨w.heap.size + 1, 0, none⟩ = some (.int .u64 bn) := (blk_cell B_4 0).trans rfl
    have Bc1 : w4.cell? ⟨w.heap.size + 1, 1, none⟩ = some (.int .u64 bd) := (blk_cell B_4 1).trans rfl
    have Bcf := blk_free B_4
    have X1c0 : w4.cell? ⟨w2.heap.size, 0, none⟩ = some (.int .u64 x0) := (blk_cell X1_4 0).trans rfl
    have X1c1 : w4.cell? ⟨w2.heap.size, 1, none⟩ = some (.int .u64 x1) := (blk_cell X1_4 1).trans rfl
    have X1cf := blk_free X1_4
    have Al4 : w.heap.size < w4.heap.size := by omega
    have Bl4 : w.heap.size + 1 < w4.heap.size := by omega
    have X1l4 : w2.heap.size < w4.heap.size := by omega
    have Y1c0 : w4.cell? ⟨xY1, 0, none⟩ = some (.int .u64 x0) := (blk_cell Y1_4 0).trans rfl
    have Y1c1 : w4.cell? ⟨xY1, 1, none⟩ = some (.int .u64 x1) := (blk_cell Y1_4 1).trans rfl
    have Y1cf := blk_free Y1_4
    have Y1l4 : xY1 < w4.heap.size := lt_of_at Y1_4
    go_wp2_with fail
    refine (HSub.out _).mono ?_
    rintro e w5 ⟨rfl, hb5⟩
    have hs5 := hb5.size
    try simp only [World.size_alloc, World.size_setCell] at hs5
    have A_5 : w5.heap[w.heap.size]? = some (.cells #[.int .u64 an, .int .u64 ad] 24 (0, 0)) := below_at hb5 (by first | omega | (simp; done) | (simp; omega)) (by (repeat (first | (with_reducible assumption) | (with_reducible exact alloc_at _ _) | ((with_reducible apply alloc_at'); (simp; done)) | (with_reducible apply alloc_at_lt) | (with_reducible apply heap_drew_at) | (with_reducible apply heap_drewN_at) | (with_reducible apply heap_setCell_same) | ((with_reducible apply heap_set_ne); (first | omega | (dsimp only; omega) | (simp; done) | (simp; omega))) | (with_reducible apply setRow_at) | ((with_reducible apply setRow_ne); (first | omega | (dsimp only; omega) | (simp; done) | (simp; omega))))))
    have B_5 : w5.heap[w.heap.size + 1]? = some (.cells #[.int .u64 bn, .int .u64 bd] 24 (0, 0)) := below_at hb5 (by first | omega | (simp; done) | (simp; omega)) (by (repeat (first | (with_reducible assumption) | (with_reducible exact alloc_at _ _) | ((with_reducible apply alloc_at'); (simp; done)) | (with_reducible apply alloc_at_lt) | (with_reducible apply heap_drew_at) | (with_reducible apply heap_drewN_at) | (with_reducible apply heap_setCell_same) | ((with_reducible apply heap_set_ne); (first | omega | (dsimp only; omega) | (simp; done) | (simp; omega))) | (with_reducible apply setRow_at) | ((with_reducible apply setRow_ne); (first | omega | (dsimp only; omega) | (simp; done) | (simp; omega))))))
    have X1_5 : w5.heap[w2.heap.size]? = some (.cells #[.int .u64 x0, .int .u64 x1] 24 (0, 0)) := below_at hb5 (by first | omega | (simp; done) | (simp; omega)) (by (repeat (first | (with_reducible assumption) | (with_reducible exact alloc_at _ _) | ((with_reducible apply alloc_at'); (simp; done)) | (with_reducible apply alloc_at_lt) | (with_reducible apply heap_drew_at) | (with_reducible apply heap_drewN_at) | (with_reducible apply heap_setCell_same) | ((with_reducible apply heap_set_ne); (first | omega | (dsimp only; omega) | (simp; done) | (simp; omega))) | (with_reducible apply setRow_at) | ((with_reducible apply setRow_ne); (first | omega | (dsimp only; omega) | (simp; done) | (simp; omega))))))
    have Y1_5 : w5.heap[xY1]? = some (.cells #[.int .u64 x0, .int .u64 x1] 29 (0, 0)) := below_at hb5 (by first | omega | (simp; done) | (simp; omega)) (by (repeat (first | (with_reducible assumption) | (with_reducible exact alloc_at _ _) | ((with_reducible apply alloc_at'); (simp; done)) | (with_reducible apply alloc_at_lt) | (with_reducible apply heap_drew_at) | (with_reducible apply heap_drewN_at) | (with_reducible apply heap_setCell_same) | ((with_reducible apply heap_set_ne); (first | omega | (dsimp only; omega) | (simp; done) | (simp; omega))) | (with_reducible apply setRow_at) | ((with_reducible apply setRow_ne); (first | omega | (dsimp only; omega) | (simp; done) | (simp; omega))))))
    have B5 : Below w.heap.size w w5 := Below.trans (by repeat (first | with_reducible assumption | with_reducible exact Below.refl _ _ | with_reducible refine Below.drew ?_ | with_reducible refine below_drewN ?_ _ | with_reducible refine below_alloc ?_ _ | with_reducible refine Below.alloc ?_ (by first | omega | (simp; done) | (simp; omega)) _ | with_reducible refine Below.setCell ?_ (by first | omega | (simp; done) | (simp; omega)) _ | with_reducible refine below_setRow ?_ (by first | omega | (simp; done) | (simp; omega)) _)) (hb5.mono (by first | omega | (simp; done) | (simp; omega)))
    clear hb5 A_4 B_4 X1_4 Y1_4
    clear Ac0 Ac1 Acf
    clear Bc0 Bc1 Bcf
    clear X1c0 X1c1 X1cf
    clear Y1c0 Y1c1 Y1cf
    have Ac0 : w5.cell? ⟨w.heap.size, 0, none⟩ = some (.int .u64 an) := (blk_cell A_5 0).trans rfl
    have Ac1 : w5.cell? ⟨w.heap.size, 1, none⟩ = some (.int .u64 ad) := (blk_cell A_5 1).trans rfl
    have Acf := blk_free A_5
    have Bc0 : w5.cell? ⟨w.heap.size + 1, 0, none⟩ = some (.int .u64 bn) := (blk_cell B_5 0).trans rfl
    have Bc1 : w5.cell? ⟨w.heap.size + 1, 1, none⟩ = some (.int .u64 bd) := (blk_cell B_5 1).trans rfl
    have Bcf := blk_free B_5
    have X1c0 : w5.cell? ⟨w2.heap.size, 0, none⟩ = some (.int .u64 x0) := (blk_cell X1_5 0).trans rfl
    have X1c1 : w5.cell? ⟨w2.heap.size, 1, none⟩ = some (.int .u64 x1) := (blk_cell X1_5 1).trans rfl
    have X1cf := blk_free X1_5
    have Y1c0 : w5.cell? ⟨xY1, 0, none⟩ = some (.int .u64 x0) := (blk_cell Y1_5 0).trans rfl
    have Y1c1 : w5.cell? ⟨xY1, 1, none⟩ = some (.int .u64 x1) := (blk_cell Y1_5 1).trans rfl
    have Y1cf := blk_free Y1_5
    have Al5 : w.heap.size < w5.heap.size := by omega
    have Bl5 : w.heap.size + 1 < w5.heap.size := by omega
    have X1l5 : w2.heap.size < w5.heap.size := by omega
    have Y1l5 : xY1 < w5.heap.size := by omega
    go_wp2_with fail
    obtain ⟨w6, hw6⟩ : ∃ wx_ : World, wx_ = w5.alloc (.cells #[.int .u64 z0, .int .u64 z1] 24) := ⟨_, rfl⟩
    rw [← hw6]
    have B6 : Below w.heap.size w w6 := by rw [hw6]; exact (by repeat (first | with_reducible assumption | with_reducible exact Below.refl _ _ | with_reducible refine Below.drew ?_ | with_reducible refine below_drewN ?_ _ | with_reducible refine below_alloc ?_ _ | with_reducible refine Below.alloc ?_ (by first | omega | (simp; done) | (simp; omega)) _ | with_reducible refine Below.setCell ?_ (by first | omega | (simp; done) | (simp; omega)) _ | with_reducible refine below_setRow ?_ (by first | omega | (simp; done) | (simp; omega)) _))
    have A_6 : w6.heap[w.heap.size]? = some (.cells #[.int .u64 an, .int .u64 ad] 24 (0, 0)) := by rw [hw6]; exact at_of (by apply Exists.intro; refine ⟨?_, ?_⟩; (focus ((repeat (first | (with_reducible assumption) | (with_reducible exact alloc_at _ _) | ((with_reducible apply alloc_at'); (simp; done)) | (with_reducible apply alloc_at_lt) | (with_reducible apply heap_drew_at) | (with_reducible apply heap_drewN_at) | (with_reducible apply heap_setCell_same) | ((with_reducible apply heap_set_ne); (first | omega | (dsimp only; omega) | (simp; done) | (simp; omega))) | (with_reducible apply setRow_at) | ((with_reducible apply setRow_ne); (first | omega | (dsimp only; omega) | (simp; done) | (simp; omega))))))); simp)
    have B_6 : w6.heap[w.heap.size + 1]? = some (.cells #[.int .u64 bn, .int .u64 bd] 24 (0, 0)) := by rw [hw6]; exact at_of (by apply Exists.intro; refine ⟨?_, ?_⟩; (focus ((repeat (first | (with_reducible assumption) | (with_reducible exact alloc_at _ _) | ((with_reducible apply alloc_at'); (simp; done)) | (with_reducible apply alloc_at_lt) | (with_reducible apply heap_drew_at) | (with_reducible apply heap_drewN_at) | (with_reducible apply heap_setCell_same) | ((with_reducible apply heap_set_ne); (first | omega | (dsimp only; omega) | (simp; done) | (simp; omega))) | (with_reducible apply setRow_at) | ((with_reducible apply setRow_ne); (first | omega | (dsimp only; omega) | (simp; done) | (simp; omega))))))); simp)
    have X1_6 : w6.heap[w2.heap.size]? = some (.cells #[.int .u64 x0, .int .u64 x1] 24 (0, 0)) := by rw [hw6]; exact at_of (by apply Exists.intro; refine ⟨?_, ?_⟩; (focus ((repeat (first | (with_reducible assumption) | (with_reducible exact alloc_at _ _) | ((with_reducible apply alloc_at'); (simp; done)) | (with_reducible apply alloc_at_lt) | (with_reducible apply heap_drew_at) | (with_reducible apply heap_drewN_at) | (with_reducible apply heap_setCell_same) | ((with_reducible apply heap_set_ne); (first | omega | (dsimp only; omega) | (simp; done) | (simp; omega))) | (with_reducible apply setRow_at) | ((with_reducible apply setRow_ne); (first | omega | (dsimp only; omega) | (simp; done) | (simp; omega))))))); simp)
    have Y1_6 : w6.heap[xY1]? = some (.cells #[.int .u64 x0, .int .u64 x1] 29 (0, 0)) := by rw [hw6]; exact at_of (by apply Exists.intro; refine ⟨?_, ?_⟩; (focus ((repeat (first | (with_reducible assumption) | (with_reducible exact alloc_at _ _) | ((with_reducible apply alloc_at'); (simp; done)) | (with_reducible apply alloc_at_lt) | (with_reducible apply heap_drew_at) | (with_reducible apply heap_drewN_at) | (with_reducible apply heap_setCell_same) | ((with_reducible apply heap_set_ne); (first | omega | (dsimp only; omega) | (simp; done) | (simp; omega))) | (with_reducible apply setRow_at) | ((with_reducible apply setRow_ne); (first | omega | (dsimp only; omega) | (simp; done) | (simp; omega))))))); simp)
    have X2_6 : w6.heap[w5.heap.size]? = some (.cells #[.int .u64 z0, .int .u64 z1] 24 (0, 0)) := by rw [hw6]; exact at_of (by apply Exists.intro; refine ⟨?_, ?_⟩; (focus ((repeat (first | (with_reducible assumption) | (with_reducible exact alloc_at _ _) | ((with_reducible apply alloc_at'); (simp; done)) | (with_reducible apply alloc_at_lt) | (with_reducible apply heap_drew_at) | (with_reducible apply heap_drewN_at) | (with_reducible apply heap_setCell_same) | ((with_reducible apply heap_set_ne); (first | omega | (dsimp only; omega) | (simp; done) | (simp; omega))) | (with_reducible apply setRow_at) | ((with_reducible apply setRow_ne); (first | omega | (dsimp only; omega) | (simp; done) | (simp; omega))))))); simp)
    clear hw6
    have Ac0 : w6.cell? ⟨w.heap.size, 0, none⟩ = some (.int .u64 an) := (blk_cell A_6 0).trans rfl
    have Ac1 : w6.cell? ⟨w.heap.size, 1, none⟩ = some (.int .u64 ad) := (blk_cell A_6 1).trans rfl
    have Acf := blk_free A_6
    have Bc0 : w6.cell? ⟨w.heap.size + 1, 0, none⟩ = some (.int .u64 bn) := (blk_cell B_6 0).trans rfl
    have Bc1 : w6.cell? ⟨w.heap.size + 1, 1, none⟩ = some (.int .u64 bd) := (blk_cell B_6 1).trans rfl
    have Bcf := blk_free B_6
    have X1c0 : w6.cell? ⟨w2.heap.size, 0, none⟩ = some (.int .u64 x0) := (blk_cell X1_6 0).trans rfl
    have X1c1 : w6.cell? ⟨w2.heap.size, 1, none⟩ = some (.int .u64 x1) := (blk_cell X1_6 1).trans rfl
    have X1cf := blk_free X1_6
    have Y1c0 : w6.cell? ⟨xY1, 0, none⟩ = some (.int .u64 x0) := (blk_cell Y1_6 0).trans rfl
    have Y1c1 : w6.cell? ⟨xY1, 1, none⟩ = some (.int .u64 x1) := (blk_cell Y1_6 1).trans rfl
    have Y1cf := blk_free Y1_6
    have X2c0 : w6.cell? ⟨w5.heap.size, 0, none⟩ = some (.int .u64 z0) := (blk_cell X2_6 0).trans rfl
    have X2c1 : w6.cell? ⟨w5.heap.size, 1, none⟩ = some (.int .u64 z1) := (blk_cell X2_6 1).trans rfl
    have X2cf := blk_free X2_6
    have Al6 : w.heap.size < w6.heap.size := lt_of_at A_6
    have Bl6 : w.heap.size + 1 < w6.heap.size := lt_of_at B_6
    have X1l6 : w2.heap.size < w6.heap.size := lt_of_at X1_6
    have Y1l6 : xY1 < w6.heap.size := lt_of_at Y1_6
    have X2l6 : w5.heap.size < w6.heap.size := lt_of_at X2_6
    go_upto_region 6 with fail
    go_cut [11, 12] (fun s11_ s12_ wx => ∃ xY2 : Nat, s11_ = .pointer (some ⟨xY2, 0, none⟩) ∧ s12_ = .int .i64 z2 ∧ Below w6.heap.size w6 wx ∧ wx.heap[xY2]? = some (.cells #[.int .u64 z0, .int .u64 z1] 29 (0, 0)))
    case first =>
      go_region_held3 (fun w' => Below w6.heap.size w6 w' ∧ (∀ b o, b < w6.heap.size → w'.cell? ⟨b, o, none⟩ = w6.cell? ⟨b, o, none⟩) ∧ ∀ b o, b < w6.heap.size → w'.frozen? ⟨b, o, none⟩ = w6.frozen? ⟨b, o, none⟩) (first | ((try go_split_ands); (try dsimp only); refine same_of ?_; (repeat (first | with_reducible assumption | with_reducible exact Below.refl _ _ | with_reducible refine Below.drew ?_ | with_reducible refine below_drewN ?_ _ | with_reducible refine below_alloc ?_ _ | with_reducible refine Below.alloc ?_ (by first | omega | (simp; done) | (simp; omega)) _ | with_reducible refine Below.setCell ?_ (by first | omega | (simp; done) | (simp; omega)) _ | with_reducible refine below_setRow ?_ (by first | omega | (simp; done) | (simp; omega)) _)); done) | ((try go_split_ands); (try dsimp only); refine same_of ?_; (repeat (first | with_reducible refine below_call ?_ hbPA2 | with_reducible refine below_call ?_ hbPB2 | with_reducible refine below_call ?_ hbRR2 | with_reducible assumption | with_reducible exact Below.refl _ _ | with_reducible refine Below.drew ?_ | with_reducible refine below_alloc ?_ _ | with_reducible refine Below.setCell ?_ (by (try have qz_hbPA2 := hbPA2.size); (try simp only [World.size_alloc, World.size_setCell, heap_drew] at qz_hbPA2); (try have qz_hbPB2 := hbPB2.size); (try simp only [World.size_alloc, World.size_setCell, heap_drew] at qz_hbPB2); (try have qz_hbRR2 := hbRR2.size); (try simp only [World.size_alloc, World.size_setCell, heap_drew] at qz_hbRR2); (try (obtain ⟨qy_hbPA2, -, -⟩ : Below _ _ wPA2 ∧ _ ∧ _ := by assumption; have qx_hbPA2 := qy_hbPA2.size)); (try (obtain ⟨qy_hbPB2, -, -⟩ : Below _ _ wPB2 ∧ _ ∧ _ := by assumption; have qx_hbPB2 := qy_hbPB2.size)); (try (obtain ⟨qy_hbRR2, -, -⟩ : Below _ _ wRR2 ∧ _ ∧ _ := by assumption; have qx_hbRR2 := qy_hbRR2.size)); first | omega | (dsimp only; omega)) _)); done)) (first | (go_at_call_of 13 (Value.agg #[Value.int IntKind.u64 an, Value.int IntKind.u64 ad]); refine (plain_any _ _ _).mono ?_; rintro e wPA2 ⟨rfl, hbPA2⟩; obtain ⟨hcPA2, hfPA2⟩ := bcell hbPA2; have hsPA2 := hbPA2.size; (try simp only [World.size_alloc, World.size_setCell, heap_drew] at hsPA2); (try have hlPA2_w6_0 : w6.heap.size < wPA2.heap.size := by omega)) | (go_at_call_of 13 (Value.agg #[Value.int IntKind.u64 bn, Value.int IntKind.u64 bd]); refine (plain_any _ _ _).mono ?_; rintro e wPB2 ⟨rfl, hbPB2⟩; obtain ⟨hcPB2, hfPB2⟩ := bcell hbPB2; have hsPB2 := hbPB2.size; (try simp only [World.size_alloc, World.size_setCell, heap_drew] at hsPB2); (try have hlPB2_w6_0 : w6.heap.size < wPB2.heap.size := by omega); (try have hlPB2_wPA2_0 : wPA2.heap.size < wPB2.heap.size := by omega)) | (go_at_call_of 19 (Value.agg #[Value.int IntKind.u64 an, Value.int IntKind.u64 ad]); refine (RSub.out _).mono ?_; rintro e wRR2 ⟨rfl, hbRR2⟩; obtain ⟨hcRR2, hfRR2⟩ := bcell hbRR2; have hsRR2 := hbRR2.size; (try simp only [World.size_alloc, World.size_setCell, heap_drew] at hsRR2); (try have hlRR2_w6_0 : w6.heap.size < wRR2.heap.size := by omega); (try have hlRR2_wPA2_0 : wPA2.heap.size < wRR2.heap.size := by omega); (try have hlRR2_wPB2_0 : wPB2.heap.size < wRR2.heap.size := by omega)))
      all_goals
        go_wp2_with fail
        obtain ⟨hb98, -, -⟩ : Below w6.heap.size w6 _ ∧ _ ∧ _ := by assumption
        go_meet
        exact ⟨_, rfl, by first | rfl | simp, (by repeat (first | with_reducible assumption | with_reducible exact Below.refl _ _ | with_reducible refine Below.drew ?_ | with_reducible refine below_drewN ?_ _ | with_reducible refine below_alloc ?_ _ | with_reducible refine Below.alloc ?_ (by first | omega | (simp; done) | (simp; omega)) _ | with_reducible refine Below.setCell ?_ (by first | omega | (simp; done) | (simp; omega)) _ | with_reducible refine below_setRow ?_ (by first | omega | (simp; done) | (simp; omega)) _)), at_of (by apply Exists.intro; refine ⟨?_, ?_⟩; (focus ((repeat (first | ((with_reducible refine below_at hbPA2 ?_ ?_); (focus (first | omega | (dsimp only; omega) | (simp; done) | (simp; omega)))) | ((with_reducible refine below_at hbPB2 ?_ ?_); (focus (first | omega | (dsimp only; omega) | (simp; done) | (simp; omega)))) | ((with_reducible refine below_at hbRR2 ?_ ?_); (focus (first | omega | (dsimp only; omega) | (simp; done) | (simp; omega)))) | (with_reducible assumption) | (with_reducible exact alloc_at _ _) | ((with_reducible apply alloc_at'); (simp; done)) | (with_reducible apply alloc_at_lt) | (with_reducible apply heap_drew_at) | (with_reducible apply heap_drewN_at) | (with_reducible apply heap_setCell_same) | ((with_reducible apply heap_set_ne); (first | omega | (dsimp only; omega) | (simp; done) | (simp; omega))) | (with_reducible apply setRow_at) | ((with_reducible apply setRow_ne); (first | omega | (dsimp only; omega) | (simp; done) | (simp; omega))))))); simp)⟩
    case rest =>
      obtain ⟨xY2, rfl, rfl, hb7, Y2_7⟩ := hcut
      obtain ⟨w7, rfl⟩ : ∃ wx_ : World, wx_ = wc := ⟨_, rfl⟩
      have hs7 := hb7.size
      try simp only [World.size_alloc, World.size_setCell] at hs7
      have A_7 : w7.heap[w.heap.size]? = some (.cells #[.int .u64 an, .int .u64 ad] 24 (0, 0)) := below_at hb7 (by first | omega | (simp; done) | (simp; omega)) (by (repeat (first | (with_reducible assumption) | (with_reducible exact alloc_at _ _) | ((with_reducible apply alloc_at'); (simp; done)) | (with_reducible apply alloc_at_lt) | (with_reducible apply heap_drew_at) | (with_reducible apply heap_drewN_at) | (with_reducible apply heap_setCell_same) | ((with_reducible apply heap_set_ne); (first | omega | (dsimp only; omega) | (simp; done) | (simp; omega))) | (with_reducible apply setRow_at) | ((with_reducible apply setRow_ne); (first | omega | (dsimp only; omega) | (simp; done) | (simp; omega))))))
      have B_7 : w7.heap[w.heap.size + 1]? = some (.cells #[.int .u64 bn, .int .u64 bd] 24 (0, 0)) := below_at hb7 (by first | omega | (simp; done) | (simp; omega)) (by (repeat (first | (with_reducible assumption) | (with_reducible exact alloc_at _ _) | ((with_reducible apply alloc_at'); (simp; done)) | (with_reducible apply alloc_at_lt) | (with_reducible apply heap_drew_at) | (with_reducible apply heap_drewN_at) | (with_reducible apply heap_setCell_same) | ((with_reducible apply heap_set_ne); (first | omega | (dsimp only; omega) | (simp; done) | (simp; omega))) | (with_reducible apply setRow_at) | ((with_reducible apply setRow_ne); (first | omega | (dsimp only; omega) | (simp; done) | (simp; omega))))))
      have X1_7 : w7.heap[w2.heap.size]? = some (.cells #[.int .u64 x0, .int .u64 x1] 24 (0, 0)) := below_at hb7 (by first | omega | (simp; done) | (simp; omega)) (by (repeat (first | (with_reducible assumption) | (with_reducible exact alloc_at _ _) | ((with_reducible apply alloc_at'); (simp; done)) | (with_reducible apply alloc_at_lt) | (with_reducible apply heap_drew_at) | (with_reducible apply heap_drewN_at) | (with_reducible apply heap_setCell_same) | ((with_reducible apply heap_set_ne); (first | omega | (dsimp only; omega) | (simp; done) | (simp; omega))) | (with_reducible apply setRow_at) | ((with_reducible apply setRow_ne); (first | omega | (dsimp only; omega) | (simp; done) | (simp; omega))))))
      have Y1_7 : w7.heap[xY1]? = some (.cells #[.int .u64 x0, .int .u64 x1] 29 (0, 0)) := below_at hb7 (by first | omega | (simp; done) | (simp; omega)) (by (repeat (first | (with_reducible assumption) | (with_reducible exact alloc_at _ _) | ((with_reducible apply alloc_at'); (simp; done)) | (with_reducible apply alloc_at_lt) | (with_reducible apply heap_drew_at) | (with_reducible apply heap_drewN_at) | (with_reducible apply heap_setCell_same) | ((with_reducible apply heap_set_ne); (first | omega | (dsimp only; omega) | (simp; done) | (simp; omega))) | (with_reducible apply setRow_at) | ((with_reducible apply setRow_ne); (first | omega | (dsimp only; omega) | (simp; done) | (simp; omega))))))
      have X2_7 : w7.heap[w5.heap.size]? = some (.cells #[.int .u64 z0, .int .u64 z1] 24 (0, 0)) := below_at hb7 (by first | omega | (simp; done) | (simp; omega)) (by (repeat (first | (with_reducible assumption) | (with_reducible exact alloc_at _ _) | ((with_reducible apply alloc_at'); (simp; done)) | (with_reducible apply alloc_at_lt) | (with_reducible apply heap_drew_at) | (with_reducible apply heap_drewN_at) | (with_reducible apply heap_setCell_same) | ((with_reducible apply heap_set_ne); (first | omega | (dsimp only; omega) | (simp; done) | (simp; omega))) | (with_reducible apply setRow_at) | ((with_reducible apply setRow_ne); (first | omega | (dsimp only; omega) | (simp; done) | (simp; omega))))))
      have B7 : Below w.heap.size w w7 := Below.trans (by repeat (first | with_reducible assumption | with_reducible exact Below.refl _ _ | with_reducible refine Below.drew ?_ | with_reducible refine below_drewN ?_ _ | with_reducible refine below_alloc ?_ _ | with_reducible refine Below.alloc ?_ (by first | omega | (simp; done) | (simp; omega)) _ | with_reducible refine Below.setCell ?_ (by first | omega | (simp; done) | (simp; omega)) _ | with_reducible refine below_setRow ?_ (by first | omega | (simp; done) | (simp; omega)) _)) (hb7.mono (by first | omega | (simp; done) | (simp; omega)))
      clear hb7 A_6 B_6 X1_6 Y1_6 X2_6
      clear Ac0 Ac1 Acf
      clear Bc0 Bc1 Bcf
      clear X1c0 X1c1 X1cf
      clear Y1c0 Y1c1 Y1cf
      clear X2c0 X2c1 X2cf
      have Ac0 : w7.cell? ⟨w.heap.size, 0, none⟩ = some (.int .u64 an) := (blk_cell A_7 0).trans rfl
      have Ac1 : w7.cell? ⟨w.heap.size, 1, none⟩ = some (.int .u64 ad) := (blk_cell A_7 1).trans rfl
      have Acf := blk_free A_7
      have Bc0 : w7.cell? ⟨w.heap.size + 1, 0, none⟩ = some (.int .u64 bn) := (blk_cell B_7 0).trans rfl
      have Bc1 : w7.cell? ⟨w.heap.size + 1, 1, none⟩ = some (.int .u64 bd) := (blk_cell B_7 1).trans rfl
      have Bcf := blk_free B_7
      have X1c0 : w7.cell? ⟨w2.heap.size, 0, none⟩ = some (.int .u64 x0) := (blk_cell X1_7 0).trans rfl
      have X1c1 : w7.cell? ⟨w2.heap.size, 1, none⟩ = some (.int .u64 x1) := (blk_cell X1_7 1).trans rfl
      have X1cf := blk_free X1_7
      have Y1c0 : w7.cell? ⟨xY1, 0, none⟩ = some (.int .u64 x0) := (blk_cell Y1_7 0).trans rfl
      have Y1c1 : w7.cell? ⟨xY1, 1, none⟩ = some (.int .u64 x1) := (blk_cell Y1_7 1).trans rfl
      have Y1cf := blk_free Y1_7
      have X2c0 : w7.cell? ⟨w5.heap.size, 0, none⟩ = some (.int .u64 z0) := (blk_cell X2_7 0).trans rfl
      have X2c1 : w7.cell? ⟨w5.heap.size, 1, none⟩ = some (.int .u64 z1) := (blk_cell X2_7 1).trans rfl
      have X2cf := blk_free X2_7
      have Al7 : w.heap.size < w7.heap.size := by omega
      have Bl7 : w.heap.size + 1 < w7.heap.size := by omega
      have X1l7 : w2.heap.size < w7.heap.size := by omega
      have Y1l7 : xY1 < w7.heap.size := by omega
      have X2l7 : w5.heap.size < w7.heap.size := by omega
      have Y2c0 : w7.cell? ⟨xY2, 0, none⟩ = some (.int .u64 z0) := (blk_cell Y2_7 0).trans rfl
      have Y2c1 : w7.cell? ⟨xY2, 1, none⟩ = some (.int .u64 z1) := (blk_cell Y2_7 1).trans rfl
      have Y2cf := blk_free Y2_7
      have Y2l7 : xY2 < w7.heap.size := lt_of_at Y2_7
      go_wp2_with fail
      refine (HMul.out _).mono ?_
      rintro e w8 ⟨rfl, hb8⟩
      have hs8 := hb8.size
      try simp only [World.size_alloc, World.size_setCell] at hs8
      have A_8 : w8.heap[w.heap.size]? = some (.cells #[.int .u64 an, .int .u64 ad] 24 (0, 0)) := below_at hb8 (by first | omega | (simp; done) | (simp; omega)) (by (repeat (first | (with_reducible assumption) | (with_reducible exact alloc_at _ _) | ((with_reducible apply alloc_at'); (simp; done)) | (with_reducible apply alloc_at_lt) | (with_reducible apply heap_drew_at) | (with_reducible apply heap_drewN_at) | (with_reducible apply heap_setCell_same) | ((with_reducible apply heap_set_ne); (first | omega | (dsimp only; omega) | (simp; done) | (simp; omega))) | (with_reducible apply setRow_at) | ((with_reducible apply setRow_ne); (first | omega | (dsimp only; omega) | (simp; done) | (simp; omega))))))
      have B_8 : w8.heap[w.heap.size + 1]? = some (.cells #[.int .u64 bn, .int .u64 bd] 24 (0, 0)) := below_at hb8 (by first | omega | (simp; done) | (simp; omega)) (by (repeat (first | (with_reducible assumption) | (with_reducible exact alloc_at _ _) | ((with_reducible apply alloc_at'); (simp; done)) | (with_reducible apply alloc_at_lt) | (with_reducible apply heap_drew_at) | (with_reducible apply heap_drewN_at) | (with_reducible apply heap_setCell_same) | ((with_reducible apply heap_set_ne); (first | omega | (dsimp only; omega) | (simp; done) | (simp; omega))) | (with_reducible apply setRow_at) | ((with_reducible apply setRow_ne); (first | omega | (dsimp only; omega) | (simp; done) | (simp; omega))))))
      have X1_8 : w8.heap[w2.heap.size]? = some (.cells #[.int .u64 x0, .int .u64 x1] 24 (0, 0)) := below_at hb8 (by first | omega | (simp; done) | (simp; omega)) (by (repeat (first | (with_reducible assumption) | (with_reducible exact alloc_at _ _) | ((with_reducible apply alloc_at'); (simp; done)) | (with_reducible apply alloc_at_lt) | (with_reducible apply heap_drew_at) | (with_reducible apply heap_drewN_at) | (with_reducible apply heap_setCell_same) | ((with_reducible apply heap_set_ne); (first | omega | (dsimp only; omega) | (simp; done) | (simp; omega))) | (with_reducible apply setRow_at) | ((with_reducible apply setRow_ne); (first | omega | (dsimp only; omega) | (simp; done) | (simp; omega))))))
      have Y1_8 : w8.heap[xY1]? = some (.cells #[.int .u64 x0, .int .u64 x1] 29 (0, 0)) := below_at hb8 (by first | omega | (simp; done) | (simp; omega)) (by (repeat (first | (with_reducible assumption) | (with_reducible exact alloc_at _ _) | ((with_reducible apply alloc_at'); (simp; done)) | (with_reducible apply alloc_at_lt) | (with_reducible apply heap_drew_at) | (with_reducible apply heap_drewN_at) | (with_reducible apply heap_setCell_same) | ((with_reducible apply heap_set_ne); (first | omega | (dsimp only; omega) | (simp; done) | (simp; omega))) | (with_reducible apply setRow_at) | ((with_reducible apply setRow_ne); (first | omega | (dsimp only; omega) | (simp; done) | (simp; omega))))))
      have X2_8 : w8.heap[w5.heap.size]? = some (.cells #[.int .u64 z0, .int .u64 z1] 24 (0, 0)) := below_at hb8 (by first | omega | (simp; done) | (simp; omega)) (by (repeat (first | (with_reducible assumption) | (with_reducible exact alloc_at _ _) | ((with_reducible apply alloc_at'); (simp; done)) | (with_reducible apply alloc_at_lt) | (with_reducible apply heap_drew_at) | (with_reducible apply heap_drewN_at) | (with_reducible apply heap_setCell_same) | ((with_reducible apply heap_set_ne); (first | omega | (dsimp only; omega) | (simp; done) | (simp; omega))) | (with_reducible apply setRow_at) | ((with_reducible apply setRow_ne); (first | omega | (dsimp only; omega) | (simp; done) | (simp; omega))))))
      have Y2_8 : w8.heap[xY2]? = some (.cells #[.int .u64 z0, .int .u64 z1] 29 (0, 0)) := below_at hb8 (by first | omega | (simp; done) | (simp; omega)) (by (repeat (first | (with_reducible assumption) | (with_reducible exact alloc_at _ _) | ((with_reducible apply alloc_at'); (simp; done)) | (with_reducible apply alloc_at_lt) | (with_reducible apply heap_drew_at) | (with_reducible apply heap_drewN_at) | (with_reducible apply heap_setCell_same) | ((with_reducible apply heap_set_ne); (first | omega | (dsimp only; omega) | (simp; done) | (simp; omega))) | (with_reducible apply setRow_at) | ((with_reducible apply setRow_ne); (first | omega | (dsimp only; omega) | (simp; done) | (simp; omega))))))
      have B8 : Below w.heap.size w w8 := Below.trans (by repeat (first | with_reducible assumption | with_reducible exact Below.refl _ _ | with_reducible refine Below.drew ?_ | with_reducible refine below_drewN ?_ _ | with_reducible refine below_alloc ?_ _ | with_reducible refine Below.alloc ?_ (by first | omega | (simp; done) | (simp; omega)) _ | with_reducible refine Below.setCell ?_ (by first | omega | (simp; done) | (simp; omega)) _ | with_reducible refine below_setRow ?_ (by first | omega | (simp; done) | (simp; omega)) _)) (hb8.mono (by first | omega | (simp; done) | (simp; omega)))
      clear hb8 A_7 B_7 X1_7 Y1_7 X2_7 Y2_7
      clear Ac0 Ac1 Acf
      clear Bc0 Bc1 Bcf
      clear X1c0 X1c1 X1cf
      clear Y1c0 Y1c1 Y1cf
      clear X2c0 X2c1 X2cf
      clear Y2c0 Y2c1 Y2cf
      have Ac0 : w8.cell? ⟨w.heap.size, 0, none⟩ = some (.int .u64 an) := (blk_cell A_8 0).trans rfl
      have Ac1 : w8.cell? ⟨w.heap.size, 1, none⟩ = some (.int .u64 ad) := (blk_cell A_8 1).trans rfl
      have Acf := blk_free A_8
      have Bc0 : w8.cell? ⟨w.heap.size + 1, 0, none⟩ = some (.int .u64 bn) := (blk_cell B_8 0).trans rfl
      have Bc1 : w8.cell? ⟨w.heap.size + 1, 1, none⟩ = some (.int .u64 bd) := (blk_cell B_8 1).trans rfl
      have Bcf := blk_free B_8
      have X1c0 : w8.cell? ⟨w2.heap.size, 0, none⟩ = some (.int .u64 x0) := (blk_cell X1_8 0).trans rfl
      have X1c1 : w8.cell? ⟨w2.heap.size, 1, none⟩ = some (.int .u64 x1) := (blk_cell X1_8 1).trans rfl
      have X1cf := blk_free X1_8
      have Y1c0 : w8.cell? ⟨xY1, 0, none⟩ = some (.int .u64 x0) := (blk_cell Y1_8 0).trans rfl
      have Y1c1 : w8.cell? ⟨xY1, 1, none⟩ = some (.int .u64 x1) := (blk_cell Y1_8 1).trans rfl
      have Y1cf := blk_free Y1_8
      have X2c0 : w8.cell? ⟨w5.heap.size, 0, none⟩ = some (.int .u64 z0) := (blk_cell X2_8 0).trans rfl
      have X2c1 : w8.cell? ⟨w5.heap.size, 1, none⟩ = some (.int .u64 z1) := (blk_cell X2_8 1).trans rfl
      have X2cf := blk_free X2_8
      have Y2c0 : w8.cell? ⟨xY2, 0, none⟩ = some (.int .u64 z0) := (blk_cell Y2_8 0).trans rfl
      have Y2c1 : w8.cell? ⟨xY2, 1, none⟩ = some (.int .u64 z1) := (blk_cell Y2_8 1).trans rfl
      have Y2cf := blk_free Y2_8
      have Al8 : w.heap.size < w8.heap.size := by omega
      have Bl8 : w.heap.size + 1 < w8.heap.size := by omega
      have X1l8 : w2.heap.size < w8.heap.size := by omega
      have Y1l8 : xY1 < w8.heap.size := by omega
      have X2l8 : w5.heap.size < w8.heap.size := by omega
      have Y2l8 : xY2 < w8.heap.size := by omega
      go_wp2_with fail
      obtain ⟨w9, hw9⟩ : ∃ wx_ : World, wx_ = w8.alloc (.cells #[.int .u64 p0, .int .u64 p1] 24) := ⟨_, rfl⟩
      rw [← hw9]
      have B9 : Below w.heap.size w w9 := by rw [hw9]; exact (by repeat (first | with_reducible assumption | with_reducible exact Below.refl _ _ | with_reducible refine Below.drew ?_ | with_reducible refine below_drewN ?_ _ | with_reducible refine below_alloc ?_ _ | with_reducible refine Below.alloc ?_ (by first | omega | (simp; done) | (simp; omega)) _ | with_reducible refine Below.setCell ?_ (by first | omega | (simp; done) | (simp; omega)) _ | with_reducible refine below_setRow ?_ (by first | omega | (simp; done) | (simp; omega)) _))
      have A_9 : w9.heap[w.heap.size]? = some (.cells #[.int .u64 an, .int .u64 ad] 24 (0, 0)) := by rw [hw9]; exact at_of (by apply Exists.intro; refine ⟨?_, ?_⟩; (focus ((repeat (first | (with_reducible assumption) | (with_reducible exact alloc_at _ _) | ((with_reducible apply alloc_at'); (simp; done)) | (with_reducible apply alloc_at_lt) | (with_reducible apply heap_drew_at) | (with_reducible apply heap_drewN_at) | (with_reducible apply heap_setCell_same) | ((with_reducible apply heap_set_ne); (first | omega | (dsimp only; omega) | (simp; done) | (simp; omega))) | (with_reducible apply setRow_at) | ((with_reducible apply setRow_ne); (first | omega | (dsimp only; omega) | (simp; done) | (simp; omega))))))); simp)
      have B_9 : w9.heap[w.heap.size + 1]? = some (.cells #[.int .u64 bn, .int .u64 bd] 24 (0, 0)) := by rw [hw9]; exact at_of (by apply Exists.intro; refine ⟨?_, ?_⟩; (focus ((repeat (first | (with_reducible assumption) | (with_reducible exact alloc_at _ _) | ((with_reducible apply alloc_at'); (simp; done)) | (with_reducible apply alloc_at_lt) | (with_reducible apply heap_drew_at) | (with_reducible apply heap_drewN_at) | (with_reducible apply heap_setCell_same) | ((with_reducible apply heap_set_ne); (first | omega | (dsimp only; omega) | (simp; done) | (simp; omega))) | (with_reducible apply setRow_at) | ((with_reducible apply setRow_ne); (first | omega | (dsimp only; omega) | (simp; done) | (simp; omega))))))); simp)
      have X1_9 : w9.heap[w2.heap.size]? = some (.cells #[.int .u64 x0, .int .u64 x1] 24 (0, 0)) := by rw [hw9]; exact at_of (by apply Exists.intro; refine ⟨?_, ?_⟩; (focus ((repeat (first | (with_reducible assumption) | (with_reducible exact alloc_at _ _) | ((with_reducible apply alloc_at'); (simp; done)) | (with_reducible apply alloc_at_lt) | (with_reducible apply heap_drew_at) | (with_reducible apply heap_drewN_at) | (with_reducible apply heap_setCell_same) | ((with_reducible apply heap_set_ne); (first | omega | (dsimp only; omega) | (simp; done) | (simp; omega))) | (with_reducible apply setRow_at) | ((with_reducible apply setRow_ne); (first | omega | (dsimp only; omega) | (simp; done) | (simp; omega))))))); simp)
      have Y1_9 : w9.heap[xY1]? = some (.cells #[.int .u64 x0, .int .u64 x1] 29 (0, 0)) := by rw [hw9]; exact at_of (by apply Exists.intro; refine ⟨?_, ?_⟩; (focus ((repeat (first | (with_reducible assumption) | (with_reducible exact alloc_at _ _) | ((with_reducible apply alloc_at'); (simp; done)) | (with_reducible apply alloc_at_lt) | (with_reducible apply heap_drew_at) | (with_reducible apply heap_drewN_at) | (with_reducible apply heap_setCell_same) | ((with_reducible apply heap_set_ne); (first | omega | (dsimp only; omega) | (simp; done) | (simp; omega))) | (with_reducible apply setRow_at) | ((with_reducible apply setRow_ne); (first | omega | (dsimp only; omega) | (simp; done) | (simp; omega))))))); simp)
      have X2_9 : w9.heap[w5.heap.size]? = some (.cells #[.int .u64 z0, .int .u64 z1] 24 (0, 0)) := by rw [hw9]; exact at_of (by apply Exists.intro; refine ⟨?_, ?_⟩; (focus ((repeat (first | (with_reducible assumption) | (with_reducible exact alloc_at _ _) | ((with_reducible apply alloc_at'); (simp; done)) | (with_reducible apply alloc_at_lt) | (with_reducible apply heap_drew_at) | (with_reducible apply heap_drewN_at) | (with_reducible apply heap_setCell_same) | ((with_reducible apply heap_set_ne); (first | omega | (dsimp only; omega) | (simp; done) | (simp; omega))) | (with_reducible apply setRow_at) | ((with_reducible apply setRow_ne); (first | omega | (dsimp only; omega) | (simp; done) | (simp; omega))))))); simp)
      have Y2_9 : w9.heap[xY2]? = some (.cells #[.int .u64 z0, .int .u64 z1] 29 (0, 0)) := by rw [hw9]; exact at_of (by apply Exists.intro; refine ⟨?_, ?_⟩; (focus ((repeat (first | (with_reducible assumption) | (with_reducible exact alloc_at _ _) | ((with_reducible apply alloc_at'); (simp; done)) | (with_reducible apply alloc_at_lt) | (with_reducible apply heap_drew_at) | (with_reducible apply heap_drewN_at) | (with_reducible apply heap_setCell_same) | ((with_reducible apply heap_set_ne); (first | omega | (dsimp only; omega) | (simp; done) | (simp; omega))) | (with_reducible apply setRow_at) | ((with_reducible apply setRow_ne); (first | omega | (dsimp only; omega) | (simp; done) | (simp; omega))))))); simp)
      have X3_9 : w9.heap[w8.heap.size]? = some (.cells #[.int .u64 p0, .int .u64 p1] 24 (0, 0)) := by rw [hw9]; exact at_of (by apply Exists.intro; refine ⟨?_, ?_⟩; (focus ((repeat (first | (with_reducible assumption) | (with_reducible exact alloc_at _ _) | ((with_reducible apply alloc_at'); (simp; done)) | (with_reducible apply alloc_at_lt) | (with_reducible apply heap_drew_at) | (with_reducible apply heap_drewN_at) | (with_reducible apply heap_setCell_same) | ((with_reducible apply heap_set_ne); (first | omega | (dsimp only; omega) | (simp; done) | (simp; omega))) | (with_reducible apply setRow_at) | ((with_reducible apply setRow_ne); (first | omega | (dsimp only; omega) | (simp; done) | (simp; omega))))))); simp)
      clear hw9
      have Ac0 : w9.cell? ⟨w.heap.size, 0, none⟩ = some (.int .u64 an) := (blk_cell A_9 0).trans rfl
      have Ac1 : w9.cell? ⟨w.heap.size, 1, none⟩ = some (.int .u64 ad) := (blk_cell A_9 1).trans rfl
      have Acf := blk_free A_9
      have Bc0 : w9.cell? ⟨w.heap.size + 1, 0, none⟩ = some (.int .u64 bn) := (blk_cell B_9 0).trans rfl
      have Bc1 : w9.cell? ⟨w.heap.size + 1, 1, none⟩ = some (.int .u64 bd) := (blk_cell B_9 1).trans rfl
      have Bcf := blk_free B_9
      have X1c0 : w9.cell? ⟨w2.heap.size, 0, none⟩ = some (.int .u64 x0) := (blk_cell X1_9 0).trans rfl
      have X1c1 : w9.cell? ⟨w2.heap.size, 1, none⟩ = some (.int .u64 x1) := (blk_cell X1_9 1).trans rfl
      have X1cf := blk_free X1_9
      have Y1c0 : w9.cell? ⟨xY1, 0, none⟩ = some (.int .u64 x0) := (blk_cell Y1_9 0).trans rfl
      have Y1c1 : w9.cell? ⟨xY1, 1, none⟩ = some (.int .u64 x1) := (blk_cell Y1_9 1).trans rfl
      have Y1cf := blk_free Y1_9
      have X2c0 : w9.cell? ⟨w5.heap.size, 0, none⟩ = some (.int .u64 z0) := (blk_cell X2_9 0).trans rfl
      have X2c1 : w9.cell? ⟨w5.heap.size, 1, none⟩ = some (.int .u64 z1) := (blk_cell X2_9 1).trans rfl
      have X2cf := blk_free X2_9
      have Y2c0 : w9.cell? ⟨xY2, 0, none⟩ = some (.int .u64 z0) := (blk_cell Y2_9 0).trans rfl
      have Y2c1 : w9.cell? ⟨xY2, 1, none⟩ = some (.int .u64 z1) := (blk_cell Y2_9 1).trans rfl
      have Y2cf := blk_free Y2_9
      have X3c0 : w9.cell? ⟨w8.heap.size, 0, none⟩ = some (.int .u64 p0) := (blk_cell X3_9 0).trans rfl
      have X3c1 : w9.cell? ⟨w8.heap.size, 1, none⟩ = some (.int .u64 p1) := (blk_cell X3_9 1).trans rfl
      have X3cf := blk_free X3_9
      have Al9 : w.heap.size < w9.heap.size := lt_of_at A_9
      have Bl9 : w.heap.size + 1 < w9.heap.size := lt_of_at B_9
      have X1l9 : w2.heap.size < w9.heap.size := lt_of_at X1_9
      have Y1l9 : xY1 < w9.heap.size := lt_of_at Y1_9
      have X2l9 : w5.heap.size < w9.heap.size := lt_of_at X2_9
      have Y2l9 : xY2 < w9.heap.size := lt_of_at Y2_9
      have X3l9 : w8.heap.size < w9.heap.size := lt_of_at X3_9
      go_upto_region 8 with fail
      go_cut [15, 16] (fun s15_ s16_ wx => ∃ xY3 : Nat, s15_ = .pointer (some ⟨xY3, 0, none⟩) ∧ s16_ = .int .i64 p2 ∧ Below w9.heap.size w9 wx ∧ wx.heap[xY3]? = some (.cells #[.int .u64 p0, .int .u64 p1] 29 (0, 0)))
      case first =>
        go_region_held3 (fun w' => Below w9.heap.size w9 w' ∧ (∀ b o, b < w9.heap.size → w'.cell? ⟨b, o, none⟩ = w9.cell? ⟨b, o, none⟩) ∧ ∀ b o, b < w9.heap.size → w'.frozen? ⟨b, o, none⟩ = w9.frozen? ⟨b, o, none⟩) (first | ((try go_split_ands); (try dsimp only); refine same_of ?_; (repeat (first | with_reducible assumption | with_reducible exact Below.refl _ _ | with_reducible refine Below.drew ?_ | with_reducible refine below_drewN ?_ _ | with_reducible refine below_alloc ?_ _ | with_reducible refine Below.alloc ?_ (by first | omega | (simp; done) | (simp; omega)) _ | with_reducible refine Below.setCell ?_ (by first | omega | (simp; done) | (simp; omega)) _ | with_reducible refine below_setRow ?_ (by first | omega | (simp; done) | (simp; omega)) _)); done) | ((try go_split_ands); (try dsimp only); refine same_of ?_; (repeat (first | with_reducible refine below_call ?_ hbPA3 | with_reducible refine below_call ?_ hbPB3 | with_reducible refine below_call ?_ hbRR3 | with_reducible assumption | with_reducible exact Below.refl _ _ | with_reducible refine Below.drew ?_ | with_reducible refine below_alloc ?_ _ | with_reducible refine Below.setCell ?_ (by (try have qz_hbPA3 := hbPA3.size); (try simp only [World.size_alloc, World.size_setCell, heap_drew] at qz_hbPA3); (try have qz_hbPB3 := hbPB3.size); (try simp only [World.size_alloc, World.size_setCell, heap_drew] at qz_hbPB3); (try have qz_hbRR3 := hbRR3.size); (try simp only [World.size_alloc, World.size_setCell, heap_drew] at qz_hbRR3); (try (obtain ⟨qy_hbPA3, -, -⟩ : Below _ _ wPA3 ∧ _ ∧ _ := by assumption; have qx_hbPA3 := qy_hbPA3.size)); (try (obtain ⟨qy_hbPB3, -, -⟩ : Below _ _ wPB3 ∧ _ ∧ _ := by assumption; have qx_hbPB3 := qy_hbPB3.size)); (try (obtain ⟨qy_hbRR3, -, -⟩ : Below _ _ wRR3 ∧ _ ∧ _ := by assumption; have qx_hbRR3 := qy_hbRR3.size)); first | omega | (dsimp only; omega)) _)); done)) (first | (go_at_call_of 13 (Value.agg #[Value.int IntKind.u64 an, Value.int IntKind.u64 ad]); refine (plain_any _ _ _).mono ?_; rintro e wPA3 ⟨rfl, hbPA3⟩; obtain ⟨hcPA3, hfPA3⟩ := bcell hbPA3; have hsPA3 := hbPA3.size; (try simp only [World.size_alloc, World.size_setCell, heap_drew] at hsPA3); (try have hlPA3_w9_0 : w9.heap.size < wPA3.heap.size := by omega)) | (go_at_call_of 13 (Value.agg #[Value.int IntKind.u64 bn, Value.int IntKind.u64 bd]); refine (plain_any _ _ _).mono ?_; rintro e wPB3 ⟨rfl, hbPB3⟩; obtain ⟨hcPB3, hfPB3⟩ := bcell hbPB3; have hsPB3 := hbPB3.size; (try simp only [World.size_alloc, World.size_setCell, heap_drew] at hsPB3); (try have hlPB3_w9_0 : w9.heap.size < wPB3.heap.size := by omega); (try have hlPB3_wPA3_0 : wPA3.heap.size < wPB3.heap.size := by omega)) | (go_at_call_of 20 (Value.agg #[Value.int IntKind.u64 an, Value.int IntKind.u64 ad]); refine (RMul.out _).mono ?_; rintro e wRR3 ⟨rfl, hbRR3⟩; obtain ⟨hcRR3, hfRR3⟩ := bcell hbRR3; have hsRR3 := hbRR3.size; (try simp only [World.size_alloc, World.size_setCell, heap_drew] at hsRR3); (try have hlRR3_w9_0 : w9.heap.size < wRR3.heap.size := by omega); (try have hlRR3_wPA3_0 : wPA3.heap.size < wRR3.heap.size := by omega); (try have hlRR3_wPB3_0 : wPB3.heap.size < wRR3.heap.size := by omega)))
        all_goals
          go_wp2_with fail
          obtain ⟨hb98, -, -⟩ : Below w9.heap.size w9 _ ∧ _ ∧ _ := by assumption
          go_meet
          exact ⟨_, rfl, by first | rfl | simp, (by repeat (first | with_reducible assumption | with_reducible exact Below.refl _ _ | with_reducible refine Below.drew ?_ | with_reducible refine below_drewN ?_ _ | with_reducible refine below_alloc ?_ _ | with_reducible refine Below.alloc ?_ (by first | omega | (simp; done) | (simp; omega)) _ | with_reducible refine Below.setCell ?_ (by first | omega | (simp; done) | (simp; omega)) _ | with_reducible refine below_setRow ?_ (by first | omega | (simp; done) | (simp; omega)) _)), at_of (by apply Exists.intro; refine ⟨?_, ?_⟩; (focus ((repeat (first | ((with_reducible refine below_at hbPA3 ?_ ?_); (focus (first | omega | (dsimp only; omega) | (simp; done) | (simp; omega)))) | ((with_reducible refine below_at hbPB3 ?_ ?_); (focus (first | omega | (dsimp only; omega) | (simp; done) | (simp; omega)))) | ((with_reducible refine below_at hbRR3 ?_ ?_); (focus (first | omega | (dsimp only; omega) | (simp; done) | (simp; omega)))) | (with_reducible assumption) | (with_reducible exact alloc_at _ _) | ((with_reducible apply alloc_at'); (simp; done)) | (with_reducible apply alloc_at_lt) | (with_reducible apply heap_drew_at) | (with_reducible apply heap_drewN_at) | (with_reducible apply heap_setCell_same) | ((with_reducible apply heap_set_ne); (first | omega | (dsimp only; omega) | (simp; done) | (simp; omega))) | (with_reducible apply setRow_at) | ((with_reducible apply setRow_ne); (first | omega | (dsimp only; omega) | (simp; done) | (simp; omega))))))); simp)⟩
      case rest =>
        obtain ⟨xY3, rfl, rfl, hb10, Y3_10⟩ := hcut
        obtain ⟨w10, rfl⟩ : ∃ wx_ : World, wx_ = wc := ⟨_, rfl⟩
        have hs10 := hb10.size
        try simp only [World.size_alloc, World.size_setCell] at hs10
        have A_10 : w10.heap[w.heap.size]? = some (.cells #[.int .u64 an, .int .u64 ad] 24 (0, 0)) := below_at hb10 (by first | omega | (simp; done) | (simp; omega)) (by (repeat (first | (with_reducible assumption) | (with_reducible exact alloc_at _ _) | ((with_reducible apply alloc_at'); (simp; done)) | (with_reducible apply alloc_at_lt) | (with_reducible apply heap_drew_at) | (with_reducible apply heap_drewN_at) | (with_reducible apply heap_setCell_same) | ((with_reducible apply heap_set_ne); (first | omega | (dsimp only; omega) | (simp; done) | (simp; omega))) | (with_reducible apply setRow_at) | ((with_reducible apply setRow_ne); (first | omega | (dsimp only; omega) | (simp; done) | (simp; omega))))))
        have B_10 : w10.heap[w.heap.size + 1]? = some (.cells #[.int .u64 bn, .int .u64 bd] 24 (0, 0)) := below_at hb10 (by first | omega | (simp; done) | (simp; omega)) (by (repeat (first | (with_reducible assumption) | (with_reducible exact alloc_at _ _) | ((with_reducible apply alloc_at'); (simp; done)) | (with_reducible apply alloc_at_lt) | (with_reducible apply heap_drew_at) | (with_reducible apply heap_drewN_at) | (with_reducible apply heap_setCell_same) | ((with_reducible apply heap_set_ne); (first | omega | (dsimp only; omega) | (simp; done) | (simp; omega))) | (with_reducible apply setRow_at) | ((with_reducible apply setRow_ne); (first | omega | (dsimp only; omega) | (simp; done) | (simp; omega))))))
        have X1_10 : w10.heap[w2.heap.size]? = some (.cells #[.int .u64 x0, .int .u64 x1] 24 (0, 0)) := below_at hb10 (by first | omega | (simp; done) | (simp; omega)) (by (repeat (first | (with_reducible assumption) | (with_reducible exact alloc_at _ _) | ((with_reducible apply alloc_at'); (simp; done)) | (with_reducible apply alloc_at_lt) | (with_reducible apply heap_drew_at) | (with_reducible apply heap_drewN_at) | (with_reducible apply heap_setCell_same) | ((with_reducible apply heap_set_ne); (first | omega | (dsimp only; omega) | (simp; done) | (simp; omega))) | (with_reducible apply setRow_at) | ((with_reducible apply setRow_ne); (first | omega | (dsimp only; omega) | (simp; done) | (simp; omega))))))
        have Y1_10 : w10.heap[xY1]? = some (.cells #[.int .u64 x0, .int .u64 x1] 29 (0, 0)) := below_at hb10 (by first | omega | (simp; done) | (simp; omega)) (by (repeat (first | (with_reducible assumption) | (with_reducible exact alloc_at _ _) | ((with_reducible apply alloc_at'); (simp; done)) | (with_reducible apply alloc_at_lt) | (with_reducible apply heap_drew_at) | (with_reducible apply heap_drewN_at) | (with_reducible apply heap_setCell_same) | ((with_reducible apply heap_set_ne); (first | omega | (dsimp only; omega) | (simp; done) | (simp; omega))) | (with_reducible apply setRow_at) | ((with_reducible apply setRow_ne); (first | omega | (dsimp only; omega) | (simp; done) | (simp; omega))))))
        have X2_10 : w10.heap[w5.heap.size]? = some (.cells #[.int .u64 z0, .int .u64 z1] 24 (0, 0)) := below_at hb10 (by first | omega | (simp; done) | (simp; omega)) (by (repeat (first | (with_reducible assumption) | (with_reducible exact alloc_at _ _) | ((with_reducible apply alloc_at'); (simp; done)) | (with_reducible apply alloc_at_lt) | (with_reducible apply heap_drew_at) | (with_reducible apply heap_drewN_at) | (with_reducible apply heap_setCell_same) | ((with_reducible apply heap_set_ne); (first | omega | (dsimp only; omega) | (simp; done) | (simp; omega))) | (with_reducible apply setRow_at) | ((with_reducible apply setRow_ne); (first | omega | (dsimp only; omega) | (simp; done) | (simp; omega))))))
        have Y2_10 : w10.heap[xY2]? = some (.cells #[.int .u64 z0, .int .u64 z1] 29 (0, 0)) := below_at hb10 (by first | omega | (simp; done) | (simp; omega)) (by (repeat (first | (with_reducible assumption) | (with_reducible exact alloc_at _ _) | ((with_reducible apply alloc_at'); (simp; done)) | (with_reducible apply alloc_at_lt) | (with_reducible apply heap_drew_at) | (with_reducible apply heap_drewN_at) | (with_reducible apply heap_setCell_same) | ((with_reducible apply heap_set_ne); (first | omega | (dsimp only; omega) | (simp; done) | (simp; omega))) | (with_reducible apply setRow_at) | ((with_reducible apply setRow_ne); (first | omega | (dsimp only; omega) | (simp; done) | (simp; omega))))))
        have X3_10 : w10.heap[w8.heap.size]? = some (.cells #[.int .u64 p0, .int .u64 p1] 24 (0, 0)) := below_at hb10 (by first | omega | (simp; done) | (simp; omega)) (by (repeat (first | (with_reducible assumption) | (with_reducible exact alloc_at _ _) | ((with_reducible apply alloc_at'); (simp; done)) | (with_reducible apply alloc_at_lt) | (with_reducible apply heap_drew_at) | (with_reducible apply heap_drewN_at) | (with_reducible apply heap_setCell_same) | ((with_reducible apply heap_set_ne); (first | omega | (dsimp only; omega) | (simp; done) | (simp; omega))) | (with_reducible apply setRow_at) | ((with_reducible apply setRow_ne); (first | omega | (dsimp only; omega) | (simp; done) | (simp; omega))))))
        have B10 : Below w.heap.size w w10 := Below.trans (by repeat (first | with_reducible assumption | with_reducible exact Below.refl _ _ | with_reducible refine Below.drew ?_ | with_reducible refine below_drewN ?_ _ | with_reducible refine below_alloc ?_ _ | with_reducible refine Below.alloc ?_ (by first | omega | (simp; done) | (simp; omega)) _ | with_reducible refine Below.setCell ?_ (by first | omega | (simp; done) | (simp; omega)) _ | with_reducible refine below_setRow ?_ (by first | omega | (simp; done) | (simp; omega)) _)) (hb10.mono (by first | omega | (simp; done) | (simp; omega)))
        clear hb10 A_9 B_9 X1_9 Y1_9 X2_9 Y2_9 X3_9
        clear Ac0 Ac1 Acf
        clear Bc0 Bc1 Bcf
        clear X1c0 X1c1 X1cf
        clear Y1c0 Y1c1 Y1cf
        clear X2c0 X2c1 X2cf
        clear Y2c0 Y2c1 Y2cf
        clear X3c0 X3c1 X3cf
        have Ac0 : w10.cell? ⟨w.heap.size, 0, none⟩ = some (.int .u64 an) := (blk_cell A_10 0).trans rfl
        have Ac1 : w10.cell? ⟨w.heap.size, 1, none⟩ = some (.int .u64 ad) := (blk_cell A_10 1).trans rfl
        have Acf := blk_free A_10
        have Bc0 : w10.cell? ⟨w.heap.size + 1, 0, none⟩ = some (.int .u64 bn) := (blk_cell B_10 0).trans rfl
        have Bc1 : w10.cell? ⟨w.heap.size + 1, 1, none⟩ = some (.int .u64 bd) := (blk_cell B_10 1).trans rfl
        have Bcf := blk_free B_10
        have X1c0 : w10.cell? ⟨w2.heap.size, 0, none⟩ = some (.int .u64 x0) := (blk_cell X1_10 0).trans rfl
        have X1c1 : w10.cell? ⟨w2.heap.size, 1, none⟩ = some (.int .u64 x1) := (blk_cell X1_10 1).trans rfl
        have X1cf := blk_free X1_10
        have Y1c0 : w10.cell? ⟨xY1, 0, none⟩ = some (.int .u64 x0) := (blk_cell Y1_10 0).trans rfl
        have Y1c1 : w10.cell? ⟨xY1, 1, none⟩ = some (.int .u64 x1) := (blk_cell Y1_10 1).trans rfl
        have Y1cf := blk_free Y1_10
        have X2c0 : w10.cell? ⟨w5.heap.size, 0, none⟩ = some (.int .u64 z0) := (blk_cell X2_10 0).trans rfl
        have X2c1 : w10.cell? ⟨w5.heap.size, 1, none⟩ = some (.int .u64 z1) := (blk_cell X2_10 1).trans rfl
        have X2cf := blk_free X2_10
        have Y2c0 : w10.cell? ⟨xY2, 0, none⟩ = some (.int .u64 z0) := (blk_cell Y2_10 0).trans rfl
        have Y2c1 : w10.cell? ⟨xY2, 1, none⟩ = some (.int .u64 z1) := (blk_cell Y2_10 1).trans rfl
        have Y2cf := blk_free Y2_10
        have X3c0 : w10.cell? ⟨w8.heap.size, 0, none⟩ = some (.int .u64 p0) := (blk_cell X3_10 0).trans rfl
        have X3c1 : w10.cell? ⟨w8.heap.size, 1, none⟩ = some (.int .u64 p1) := (blk_cell X3_10 1).trans rfl
        have X3cf := blk_free X3_10
        have Al10 : w.heap.size < w10.heap.size := by omega
        have Bl10 : w.heap.size + 1 < w10.heap.size := by omega
        have X1l10 : w2.heap.size < w10.heap.size := by omega
        have Y1l10 : xY1 < w10.heap.size := by omega
        have X2l10 : w5.heap.size < w10.heap.size := by omega
        have Y2l10 : xY2 < w10.heap.size := by omega
        have X3l10 : w8.heap.size < w10.heap.size := by omega
        have Y3c0 : w10.cell? ⟨xY3, 0, none⟩ = some (.int .u64 p0) := (blk_cell Y3_10 0).trans rfl
        have Y3c1 : w10.cell? ⟨xY3, 1, none⟩ = some (.int .u64 p1) := (blk_cell Y3_10 1).trans rfl
        have Y3cf := blk_free Y3_10
        have Y3l10 : xY3 < w10.heap.size := lt_of_at Y3_10
        go_wp2_with fail
        refine (same_any _ _ _ _).mono ?_
        rintro e w11 ⟨rfl, hb11⟩
        have hs11 := hb11.size
        try simp only [World.size_alloc, World.size_setCell] at hs11
        have A_11 : w11.heap[w.heap.size]? = some (.cells #[.int .u64 an, .int .u64 ad] 24 (0, 0)) := below_at hb11 (by first | omega | (simp; done) | (simp; omega)) (by (repeat (first | (with_reducible assumption) | (with_reducible exact alloc_at _ _) | ((with_reducible apply alloc_at'); (simp; done)) | (with_reducible apply alloc_at_lt) | (with_reducible apply heap_drew_at) | (with_reducible apply heap_drewN_at) | (with_reducible apply heap_setCell_same) | ((with_reducible apply heap_set_ne); (first | omega | (dsimp only; omega) | (simp; done) | (simp; omega))) | (with_reducible apply setRow_at) | ((with_reducible apply setRow_ne); (first | omega | (dsimp only; omega) | (simp; done) | (simp; omega))))))
        have B_11 : w11.heap[w.heap.size + 1]? = some (.cells #[.int .u64 bn, .int .u64 bd] 24 (0, 0)) := below_at hb11 (by first | omega | (simp; done) | (simp; omega)) (by (repeat (first | (with_reducible assumption) | (with_reducible exact alloc_at _ _) | ((with_reducible apply alloc_at'); (simp; done)) | (with_reducible apply alloc_at_lt) | (with_reducible apply heap_drew_at) | (with_reducible apply heap_drewN_at) | (with_reducible apply heap_setCell_same) | ((with_reducible apply heap_set_ne); (first | omega | (dsimp only; omega) | (simp; done) | (simp; omega))) | (with_reducible apply setRow_at) | ((with_reducible apply setRow_ne); (first | omega | (dsimp only; omega) | (simp; done) | (simp; omega))))))
        have X1_11 : w11.heap[w2.heap.size]? = some (.cells #[.int .u64 x0, .int .u64 x1] 24 (0, 0)) := below_at hb11 (by first | omega | (simp; done) | (simp; omega)) (by (repeat (first | (with_reducible assumption) | (with_reducible exact alloc_at _ _) | ((with_reducible apply alloc_at'); (simp; done)) | (with_reducible apply alloc_at_lt) | (with_reducible apply heap_drew_at) | (with_reducible apply heap_drewN_at) | (with_reducible apply heap_setCell_same) | ((with_reducible apply heap_set_ne); (first | omega | (dsimp only; omega) | (simp; done) | (simp; omega))) | (with_reducible apply setRow_at) | ((with_reducible apply setRow_ne); (first | omega | (dsimp only; omega) | (simp; done) | (simp; omega))))))
        have Y1_11 : w11.heap[xY1]? = some (.cells #[.int .u64 x0, .int .u64 x1] 29 (0, 0)) := below_at hb11 (by first | omega | (simp; done) | (simp; omega)) (by (repeat (first | (with_reducible assumption) | (with_reducible exact alloc_at _ _) | ((with_reducible apply alloc_at'); (simp; done)) | (with_reducible apply alloc_at_lt) | (with_reducible apply heap_drew_at) | (with_reducible apply heap_drewN_at) | (with_reducible apply heap_setCell_same) | ((with_reducible apply heap_set_ne); (first | omega | (dsimp only; omega) | (simp; done) | (simp; omega))) | (with_reducible apply setRow_at) | ((with_reducible apply setRow_ne); (first | omega | (dsimp only; omega) | (simp; done) | (simp; omega))))))
        have X2_11 : w11.heap[w5.heap.size]? = some (.cells #[.int .u64 z0, .int .u64 z1] 24 (0, 0)) := below_at hb11 (by first | omega | (simp; done) | (simp; omega)) (by (repeat (first | (with_reducible assumption) | (with_reducible exact alloc_at _ _) | ((with_reducible apply alloc_at'); (simp; done)) | (with_reducible apply alloc_at_lt) | (with_reducible apply heap_drew_at) | (with_reducible apply heap_drewN_at) | (with_reducible apply heap_setCell_same) | ((with_reducible apply heap_set_ne); (first | omega | (dsimp only; omega) | (simp; done) | (simp; omega))) | (with_reducible apply setRow_at) | ((with_reducible apply setRow_ne); (first | omega | (dsimp only; omega) | (simp; done) | (simp; omega))))))
        have Y2_11 : w11.heap[xY2]? = some (.cells #[.int .u64 z0, .int .u64 z1] 29 (0, 0)) := below_at hb11 (by first | omega | (simp; done) | (simp; omega)) (by (repeat (first | (with_reducible assumption) | (with_reducible exact alloc_at _ _) | ((with_reducible apply alloc_at'); (simp; done)) | (with_reducible apply alloc_at_lt) | (with_reducible apply heap_drew_at) | (with_reducible apply heap_drewN_at) | (with_reducible apply heap_setCell_same) | ((with_reducible apply heap_set_ne); (first | omega | (dsimp only; omega) | (simp; done) | (simp; omega))) | (with_reducible apply setRow_at) | ((with_reducible apply setRow_ne); (first | omega | (dsimp only; omega) | (simp; done) | (simp; omega))))))
        have X3_11 : w11.heap[w8.heap.size]? = some (.cells #[.int .u64 p0, .int .u64 p1] 24 (0, 0)) := below_at hb11 (by first | omega | (simp; done) | (simp; omega)) (by (repeat (first | (with_reducible assumption) | (with_reducible exact alloc_at _ _) | ((with_reducible apply alloc_at'); (simp; done)) | (with_reducible apply alloc_at_lt) | (with_reducible apply heap_drew_at) | (with_reducible apply heap_drewN_at) | (with_reducible apply heap_setCell_same) | ((with_reducible apply heap_set_ne); (first | omega | (dsimp only; omega) | (simp; done) | (simp; omega))) | (with_reducible apply setRow_at) | ((with_reducible apply setRow_ne); (first | omega | (dsimp only; omega) | (simp; done) | (simp; omega))))))
        have Y3_11 : w11.heap[xY3]? = some (.cells #[.int .u64 p0, .int .u64 p1] 29 (0, 0)) := below_at hb11 (by first | omega | (simp; done) | (simp; omega)) (by (repeat (first | (with_reducible assumption) | (with_reducible exact alloc_at _ _) | ((with_reducible apply alloc_at'); (simp; done)) | (with_reducible apply alloc_at_lt) | (with_reducible apply heap_drew_at) | (with_reducible apply heap_drewN_at) | (with_reducible apply heap_setCell_same) | ((with_reducible apply heap_set_ne); (first | omega | (dsimp only; omega) | (simp; done) | (simp; omega))) | (with_reducible apply setRow_at) | ((with_reducible apply setRow_ne); (first | omega | (dsimp only; omega) | (simp; done) | (simp; omega))))))
        have B11 : Below w.heap.size w w11 := Below.trans (by repeat (first | with_reducible assumption | with_reducible exact Below.refl _ _ | with_reducible refine Below.drew ?_ | with_reducible refine below_drewN ?_ _ | with_reducible refine below_alloc ?_ _ | with_reducible refine Below.alloc ?_ (by first | omega | (simp; done) | (simp; omega)) _ | with_reducible refine Below.setCell ?_ (by first | omega | (simp; done) | (simp; omega)) _ | with_reducible refine below_setRow ?_ (by first | omega | (simp; done) | (simp; omega)) _)) (hb11.mono (by first | omega | (simp; done) | (simp; omega)))
        clear hb11 A_10 B_10 X1_10 Y1_10 X2_10 Y2_10 X3_10 Y3_10
        clear Ac0 Ac1 Acf
        clear Bc0 Bc1 Bcf
        clear X1c0 X1c1 X1cf
        clear Y1c0 Y1c1 Y1cf
        clear X2c0 X2c1 X2cf
        clear Y2c0 Y2c1 Y2cf
        clear X3c0 X3c1 X3cf
        clear Y3c0 Y3c1 Y3cf
        have Ac0 : w11.cell? ⟨w.heap.size, 0, none⟩ = some (.int .u64 an) := (blk_cell A_11 0).trans rfl
        have Ac1 : w11.cell? ⟨w.heap.size, 1, none⟩ = some (.int .u64 ad) := (blk_cell A_11 1).trans rfl
        have Acf := blk_free A_11
        have Bc0 : w11.cell? ⟨w.heap.size + 1, 0, none⟩ = some (.int .u64 bn) := (blk_cell B_11 0).trans rfl
        have Bc1 : w11.cell? ⟨w.heap.size + 1, 1, none⟩ = some (.int .u64 bd) := (blk_cell B_11 1).trans rfl
        have Bcf := blk_free B_11
        have X1c0 : w11.cell? ⟨w2.heap.size, 0, none⟩ = some (.int .u64 x0) := (blk_cell X1_11 0).trans rfl
        have X1c1 : w11.cell? ⟨w2.heap.size, 1, none⟩ = some (.int .u64 x1) := (blk_cell X1_11 1).trans rfl
        have X1cf := blk_free X1_11
        have Y1c0 : w11.cell? ⟨xY1, 0, none⟩ = some (.int .u64 x0) := (blk_cell Y1_11 0).trans rfl
        have Y1c1 : w11.cell? ⟨xY1, 1, none⟩ = some (.int .u64 x1) := (blk_cell Y1_11 1).trans rfl
        have Y1cf := blk_free Y1_11
        have X2c0 : w11.cell? ⟨w5.heap.size, 0, none⟩ = some (.int .u64 z0) := (blk_cell X2_11 0).trans rfl
        have X2c1 : w11.cell? ⟨w5.heap.size, 1, none⟩ = some (.int .u64 z1) := (blk_cell X2_11 1).trans rfl
        have X2cf := blk_free X2_11
        have Y2c0 : w11.cell? ⟨xY2, 0, none⟩ = some (.int .u64 z0) := (blk_cell Y2_11 0).trans rfl
        have Y2c1 : w11.cell? ⟨xY2, 1, none⟩ = some (.int .u64 z1) := (blk_cell Y2_11 1).trans rfl
        have Y2cf := blk_free Y2_11
        have X3c0 : w11.cell? ⟨w8.heap.size, 0, none⟩ = some (.int .u64 p0) := (blk_cell X3_11 0).trans rfl
        have X3c1 : w11.cell? ⟨w8.heap.size, 1, none⟩ = some (.int .u64 p1) := (blk_cell X3_11 1).trans rfl
        have X3cf := blk_free X3_11
        have Y3c0 : w11.cell? ⟨xY3, 0, none⟩ = some (.int .u64 p0) := (blk_cell Y3_11 0).trans rfl
        have Y3c1 : w11.cell? ⟨xY3, 1, none⟩ = some (.int .u64 p1) := (blk_cell Y3_11 1).trans rfl
        have Y3cf := blk_free Y3_11
        have Al11 : w.heap.size < w11.heap.size := by omega
        have Bl11 : w.heap.size + 1 < w11.heap.size := by omega
        have X1l11 : w2.heap.size < w11.heap.size := by omega
        have Y1l11 : xY1 < w11.heap.size := by omega
        have X2l11 : w5.heap.size < w11.heap.size := by omega
        have Y2l11 : xY2 < w11.heap.size := by omega
        have X3l11 : w8.heap.size < w11.heap.size := by omega
        have Y3l11 : xY3 < w11.heap.size := by omega
        go_wp2_with fail
        refine (same_any _ _ _ _).mono ?_
        rintro e w12 ⟨rfl, hb12⟩
        have hs12 := hb12.size
        try simp only [World.size_alloc, World.size_setCell] at hs12
        have A_12 : w12.heap[w.heap.size]? = some (.cells #[.int .u64 an, .int .u64 ad] 24 (0, 0)) := below_at hb12 (by first | omega | (simp; done) | (simp; omega)) (by (repeat (first | (with_reducible assumption) | (with_reducible exact alloc_at _ _) | ((with_reducible apply alloc_at'); (simp; done)) | (with_reducible apply alloc_at_lt) | (with_reducible apply heap_drew_at) | (with_reducible apply heap_drewN_at) | (with_reducible apply heap_setCell_same) | ((with_reducible apply heap_set_ne); (first | omega | (dsimp only; omega) | (simp; done) | (simp; omega))) | (with_reducible apply setRow_at) | ((with_reducible apply setRow_ne); (first | omega | (dsimp only; omega) | (simp; done) | (simp; omega))))))
        have B_12 : w12.heap[w.heap.size + 1]? = some (.cells #[.int .u64 bn, .int .u64 bd] 24 (0, 0)) := below_at hb12 (by first | omega | (simp; done) | (simp; omega)) (by (repeat (first | (with_reducible assumption) | (with_reducible exact alloc_at _ _) | ((with_reducible apply alloc_at'); (simp; done)) | (with_reducible apply alloc_at_lt) | (with_reducible apply heap_drew_at) | (with_reducible apply heap_drewN_at) | (with_reducible apply heap_setCell_same) | ((with_reducible apply heap_set_ne); (first | omega | (dsimp only; omega) | (simp; done) | (simp; omega))) | (with_reducible apply setRow_at) | ((with_reducible apply setRow_ne); (first | omega | (dsimp only; omega) | (simp; done) | (simp; omega))))))
        have X1_12 : w12.heap[w2.heap.size]? = some (.cells #[.int .u64 x0, .int .u64 x1] 24 (0, 0)) := below_at hb12 (by first | omega | (simp; done) | (simp; omega)) (by (repeat (first | (with_reducible assumption) | (with_reducible exact alloc_at _ _) | ((with_reducible apply alloc_at'); (simp; done)) | (with_reducible apply alloc_at_lt) | (with_reducible apply heap_drew_at) | (with_reducible apply heap_drewN_at) | (with_reducible apply heap_setCell_same) | ((with_reducible apply heap_set_ne); (first | omega | (dsimp only; omega) | (simp; done) | (simp; omega))) | (with_reducible apply setRow_at) | ((with_reducible apply setRow_ne); (first | omega | (dsimp only; omega) | (simp; done) | (simp; omega))))))
        have Y1_12 : w12.heap[xY1]? = some (.cells #[.int .u64 x0, .int .u64 x1] 29 (0, 0)) := below_at hb12 (by first | omega | (simp; done) | (simp; omega)) (by (repeat (first | (with_reducible assumption) | (with_reducible exact alloc_at _ _) | ((with_reducible apply alloc_at'); (simp; done)) | (with_reducible apply alloc_at_lt) | (with_reducible apply heap_drew_at) | (with_reducible apply heap_drewN_at) | (with_reducible apply heap_setCell_same) | ((with_reducible apply heap_set_ne); (first | omega | (dsimp only; omega) | (simp; done) | (simp; omega))) | (with_reducible apply setRow_at) | ((with_reducible apply setRow_ne); (first | omega | (dsimp only; omega) | (simp; done) | (simp; omega))))))
        have X2_12 : w12.heap[w5.heap.size]? = some (.cells #[.int .u64 z0, .int .u64 z1] 24 (0, 0)) := below_at hb12 (by first | omega | (simp; done) | (simp; omega)) (by (repeat (first | (with_reducible assumption) | (with_reducible exact alloc_at _ _) | ((with_reducible apply alloc_at'); (simp; done)) | (with_reducible apply alloc_at_lt) | (with_reducible apply heap_drew_at) | (with_reducible apply heap_drewN_at) | (with_reducible apply heap_setCell_same) | ((with_reducible apply heap_set_ne); (first | omega | (dsimp only; omega) | (simp; done) | (simp; omega))) | (with_reducible apply setRow_at) | ((with_reducible apply setRow_ne); (first | omega | (dsimp only; omega) | (simp; done) | (simp; omega))))))
        have Y2_12 : w12.heap[xY2]? = some (.cells #[.int .u64 z0, .int .u64 z1] 29 (0, 0)) := below_at hb12 (by first | omega | (simp; done) | (simp; omega)) (by (repeat (first | (with_reducible assumption) | (with_reducible exact alloc_at _ _) | ((with_reducible apply alloc_at'); (simp; done)) | (with_reducible apply alloc_at_lt) | (with_reducible apply heap_drew_at) | (with_reducible apply heap_drewN_at) | (with_reducible apply heap_setCell_same) | ((with_reducible apply heap_set_ne); (first | omega | (dsimp only; omega) | (simp; done) | (simp; omega))) | (with_reducible apply setRow_at) | ((with_reducible apply setRow_ne); (first | omega | (dsimp only; omega) | (simp; done) | (simp; omega))))))
        have X3_12 : w12.heap[w8.heap.size]? = some (.cells #[.int .u64 p0, .int .u64 p1] 24 (0, 0)) := below_at hb12 (by first | omega | (simp; done) | (simp; omega)) (by (repeat (first | (with_reducible assumption) | (with_reducible exact alloc_at _ _) | ((with_reducible apply alloc_at'); (simp; done)) | (with_reducible apply alloc_at_lt) | (with_reducible apply heap_drew_at) | (with_reducible apply heap_drewN_at) | (with_reducible apply heap_setCell_same) | ((with_reducible apply heap_set_ne); (first | omega | (dsimp only; omega) | (simp; done) | (simp; omega))) | (with_reducible apply setRow_at) | ((with_reducible apply setRow_ne); (first | omega | (dsimp only; omega) | (simp; done) | (simp; omega))))))
        have Y3_12 : w12.heap[xY3]? = some (.cells #[.int .u64 p0, .int .u64 p1] 29 (0, 0)) := below_at hb12 (by first | omega | (simp; done) | (simp; omega)) (by (repeat (first | (with_reducible assumption) | (with_reducible exact alloc_at _ _) | ((with_reducible apply alloc_at'); (simp; done)) | (with_reducible apply alloc_at_lt) | (with_reducible apply heap_drew_at) | (with_reducible apply heap_drewN_at) | (with_reducible apply heap_setCell_same) | ((with_reducible apply heap_set_ne); (first | omega | (dsimp only; omega) | (simp; done) | (simp; omega))) | (with_reducible apply setRow_at) | ((with_reducible apply setRow_ne); (first | omega | (dsimp only; omega) | (simp; done) | (simp; omega))))))
        have B12 : Below w.heap.size w w12 := Below.trans (by repeat (first | with_reducible assumption | with_reducible exact Below.refl _ _ | with_reducible refine Below.drew ?_ | with_reducible refine below_drewN ?_ _ | with_reducible refine below_alloc ?_ _ | with_reducible refine Below.alloc ?_ (by first | omega | (simp; done) | (simp; omega)) _ | with_reducible refine Below.setCell ?_ (by first | omega | (simp; done) | (simp; omega)) _ | with_reducible refine below_setRow ?_ (by first | omega | (simp; done) | (simp; omega)) _)) (hb12.mono (by first | omega | (simp; done) | (simp; omega)))
        clear hb12 A_11 B_11 X1_11 Y1_11 X2_11 Y2_11 X3_11 Y3_11
        clear Ac0 Ac1 Acf
        clear Bc0 Bc1 Bcf
        clear X1c0 X1c1 X1cf
        clear Y1c0 Y1c1 Y1cf
        clear X2c0 X2c1 X2cf
        clear Y2c0 Y2c1 Y2cf
        clear X3c0 X3c1 X3cf
        clear Y3c0 Y3c1 Y3cf
        have Ac0 : w12.cell? ⟨w.heap.size, 0, none⟩ = some (.int .u64 an) := (blk_cell A_12 0).trans rfl
        have Ac1 : w12.cell? ⟨w.heap.size, 1, none⟩ = some (.int .u64 ad) := (blk_cell A_12 1).trans rfl
        have Acf := blk_free A_12
        have Bc0 : w12.cell? ⟨w.heap.size + 1, 0, none⟩ = some (.int .u64 bn) := (blk_cell B_12 0).trans rfl
        have Bc1 : w12.cell? ⟨w.heap.size + 1, 1, none⟩ = some (.int .u64 bd) := (blk_cell B_12 1).trans rfl
        have Bcf := blk_free B_12
        have X1c0 : w12.cell? ⟨w2.heap.size, 0, none⟩ = some (.int .u64 x0) := (blk_cell X1_12 0).trans rfl
        have X1c1 : w12.cell? ⟨w2.heap.size, 1, none⟩ = some (.int .u64 x1) := (blk_cell X1_12 1).trans rfl
        have X1cf := blk_free X1_12
        have Y1c0 : w12.cell? ⟨xY1, 0, none⟩ = some (.int .u64 x0) := (blk_cell Y1_12 0).trans rfl
        have Y1c1 : w12.cell? ⟨xY1, 1, none⟩ = some (.int .u64 x1) := (blk_cell Y1_12 1).trans rfl
        have Y1cf := blk_free Y1_12
        have X2c0 : w12.cell? ⟨w5.heap.size, 0, none⟩ = some (.int .u64 z0) := (blk_cell X2_12 0).trans rfl
        have X2c1 : w12.cell? ⟨w5.heap.size, 1, none⟩ = some (.int .u64 z1) := (blk_cell X2_12 1).trans rfl
        have X2cf := blk_free X2_12
        have Y2c0 : w12.cell? ⟨xY2, 0, none⟩ = some (.int .u64 z0) := (blk_cell Y2_12 0).trans rfl
        have Y2c1 : w12.cell? ⟨xY2, 1, none⟩ = some (.int .u64 z1) := (blk_cell Y2_12 1).trans rfl
        have Y2cf := blk_free Y2_12
        have X3c0 : w12.cell? ⟨w8.heap.size, 0, none⟩ = some (.int .u64 p0) := (blk_cell X3_12 0).trans rfl
        have X3c1 : w12.cell? ⟨w8.heap.size, 1, none⟩ = some (.int .u64 p1) := (blk_cell X3_12 1).trans rfl
        have X3cf := blk_free X3_12
        have Y3c0 : w12.cell? ⟨xY3, 0, none⟩ = some (.int .u64 p0) := (blk_cell Y3_12 0).trans rfl
        have Y3c1 : w12.cell? ⟨xY3, 1, none⟩ = some (.int .u64 p1) := (blk_cell Y3_12 1).trans rfl
        have Y3cf := blk_free Y3_12
        have Al12 : w.heap.size < w12.heap.size := by omega
        have Bl12 : w.heap.size + 1 < w12.heap.size := by omega
        have X1l12 : w2.heap.size < w12.heap.size := by omega
        have Y1l12 : xY1 < w12.heap.size := by omega
        have X2l12 : w5.heap.size < w12.heap.size := by omega
        have Y2l12 : xY2 < w12.heap.size := by omega
        have X3l12 : w8.heap.size < w12.heap.size := by omega
        have Y3l12 : xY3 < w12.heap.size := by omega
        go_wp2_with fail
        refine (same_any _ _ _ _).mono ?_
        rintro e w13 ⟨rfl, hb13⟩
        have hs13 := hb13.size
        try simp only [World.size_alloc, World.size_setCell] at hs13
        have A_13 : w13.heap[w.heap.size]? = some (.cells #[.int .u64 an, .int .u64 ad] 24 (0, 0)) := below_at hb13 (by first | omega | (simp; done) | (simp; omega)) (by (repeat (first | (with_reducible assumption) | (with_reducible exact alloc_at _ _) | ((with_reducible apply alloc_at'); (simp; done)) | (with_reducible apply alloc_at_lt) | (with_reducible apply heap_drew_at) | (with_reducible apply heap_drewN_at) | (with_reducible apply heap_setCell_same) | ((with_reducible apply heap_set_ne); (first | omega | (dsimp only; omega) | (simp; done) | (simp; omega))) | (with_reducible apply setRow_at) | ((with_reducible apply setRow_ne); (first | omega | (dsimp only; omega) | (simp; done) | (simp; omega))))))
        have B_13 : w13.heap[w.heap.size + 1]? = some (.cells #[.int .u64 bn, .int .u64 bd] 24 (0, 0)) := below_at hb13 (by first | omega | (simp; done) | (simp; omega)) (by (repeat (first | (with_reducible assumption) | (with_reducible exact alloc_at _ _) | ((with_reducible apply alloc_at'); (simp; done)) | (with_reducible apply alloc_at_lt) | (with_reducible apply heap_drew_at) | (with_reducible apply heap_drewN_at) | (with_reducible apply heap_setCell_same) | ((with_reducible apply heap_set_ne); (first | omega | (dsimp only; omega) | (simp; done) | (simp; omega))) | (with_reducible apply setRow_at) | ((with_reducible apply setRow_ne); (first | omega | (dsimp only; omega) | (simp; done) | (simp; omega))))))
        have X1_13 : w13.heap[w2.heap.size]? = some (.cells #[.int .u64 x0, .int .u64 x1] 24 (0, 0)) := below_at hb13 (by first | omega | (simp; done) | (simp; omega)) (by (repeat (first | (with_reducible assumption) | (with_reducible exact alloc_at _ _) | ((with_reducible apply alloc_at'); (simp; done)) | (with_reducible apply alloc_at_lt) | (with_reducible apply heap_drew_at) | (with_reducible apply heap_drewN_at) | (with_reducible apply heap_setCell_same) | ((with_reducible apply heap_set_ne); (first | omega | (dsimp only; omega) | (simp; done) | (simp; omega))) | (with_reducible apply setRow_at) | ((with_reducible apply setRow_ne); (first | omega | (dsimp only; omega) | (simp; done) | (simp; omega))))))
        have Y1_13 : w13.heap[xY1]? = some (.cells #[.int .u64 x0, .int .u64 x1] 29 (0, 0)) := below_at hb13 (by first | omega | (simp; done) | (simp; omega)) (by (repeat (first | (with_reducible assumption) | (with_reducible exact alloc_at _ _) | ((with_reducible apply alloc_at'); (simp; done)) | (with_reducible apply alloc_at_lt) | (with_reducible apply heap_drew_at) | (with_reducible apply heap_drewN_at) | (with_reducible apply heap_setCell_same) | ((with_reducible apply heap_set_ne); (first | omega | (dsimp only; omega) | (simp; done) | (simp; omega))) | (with_reducible apply setRow_at) | ((with_reducible apply setRow_ne); (first | omega | (dsimp only; omega) | (simp; done) | (simp; omega))))))
        have X2_13 : w13.heap[w5.heap.size]? = some (.cells #[.int .u64 z0, .int .u64 z1] 24 (0, 0)) := below_at hb13 (by first | omega | (simp; done) | (simp; omega)) (by (repeat (first | (with_reducible assumption) | (with_reducible exact alloc_at _ _) | ((with_reducible apply alloc_at'); (simp; done)) | (with_reducible apply alloc_at_lt) | (with_reducible apply heap_drew_at) | (with_reducible apply heap_drewN_at) | (with_reducible apply heap_setCell_same) | ((with_reducible apply heap_set_ne); (first | omega | (dsimp only; omega) | (simp; done) | (simp; omega))) | (with_reducible apply setRow_at) | ((with_reducible apply setRow_ne); (first | omega | (dsimp only; omega) | (simp; done) | (simp; omega))))))
        have Y2_13 : w13.heap[xY2]? = some (.cells #[.int .u64 z0, .int .u64 z1] 29 (0, 0)) := below_at hb13 (by first | omega | (simp; done) | (simp; omega)) (by (repeat (first | (with_reducible assumption) | (with_reducible exact alloc_at _ _) | ((with_reducible apply alloc_at'); (simp; done)) | (with_reducible apply alloc_at_lt) | (with_reducible apply heap_drew_at) | (with_reducible apply heap_drewN_at) | (with_reducible apply heap_setCell_same) | ((with_reducible apply heap_set_ne); (first | omega | (dsimp only; omega) | (simp; done) | (simp; omega))) | (with_reducible apply setRow_at) | ((with_reducible apply setRow_ne); (first | omega | (dsimp only; omega) | (simp; done) | (simp; omega))))))
        have X3_13 : w13.heap[w8.heap.size]? = some (.cells #[.int .u64 p0, .int .u64 p1] 24 (0, 0)) := below_at hb13 (by first | omega | (simp; done) | (simp; omega)) (by (repeat (first | (with_reducible assumption) | (with_reducible exact alloc_at _ _) | ((with_reducible apply alloc_at'); (simp; done)) | (with_reducible apply alloc_at_lt) | (with_reducible apply heap_drew_at) | (with_reducible apply heap_drewN_at) | (with_reducible apply heap_setCell_same) | ((with_reducible apply heap_set_ne); (first | omega | (dsimp only; omega) | (simp; done) | (simp; omega))) | (with_reducible apply setRow_at) | ((with_reducible apply setRow_ne); (first | omega | (dsimp only; omega) | (simp; done) | (simp; omega))))))
        have Y3_13 : w13.heap[xY3]? = some (.cells #[.int .u64 p0, .int .u64 p1] 29 (0, 0)) := below_at hb13 (by first | omega | (simp; done) | (simp; omega)) (by (repeat (first | (with_reducible assumption) | (with_reducible exact alloc_at _ _) | ((with_reducible apply alloc_at'); (simp; done)) | (with_reducible apply alloc_at_lt) | (with_reducible apply heap_drew_at) | (with_reducible apply heap_drewN_at) | (with_reducible apply heap_setCell_same) | ((with_reducible apply heap_set_ne); (first | omega | (dsimp only; omega) | (simp; done) | (simp; omega))) | (with_reducible apply setRow_at) | ((with_reducible apply setRow_ne); (first | omega | (dsimp only; omega) | (simp; done) | (simp; omega))))))
        have B13 : Below w.heap.size w w13 := Below.trans (by repeat (first | with_reducible assumption | with_reducible exact Below.refl _ _ | with_reducible refine Below.drew ?_ | with_reducible refine below_drewN ?_ _ | with_reducible refine below_alloc ?_ _ | with_reducible refine Below.alloc ?_ (by first | omega | (simp; done) | (simp; omega)) _ | with_reducible refine Below.setCell ?_ (by first | omega | (simp; done) | (simp; omega)) _ | with_reducible refine below_setRow ?_ (by first | omega | (simp; done) | (simp; omega)) _)) (hb13.mono (by first | omega | (simp; done) | (simp; omega)))
        clear hb13 A_12 B_12 X1_12 Y1_12 X2_12 Y2_12 X3_12 Y3_12
        clear Ac0 Ac1 Acf
        clear Bc0 Bc1 Bcf
        clear X1c0 X1c1 X1cf
        clear Y1c0 Y1c1 Y1cf
        clear X2c0 X2c1 X2cf
        clear Y2c0 Y2c1 Y2cf
        clear X3c0 X3c1 X3cf
        clear Y3c0 Y3c1 Y3cf
        have Ac0 : w13.cell? ⟨w.heap.size, 0, none⟩ = some (.int .u64 an) := (blk_cell A_13 0).trans rfl
        have Ac1 : w13.cell? ⟨w.heap.size, 1, none⟩ = some (.int .u64 ad) := (blk_cell A_13 1).trans rfl
        have Acf := blk_free A_13
        have Bc0 : w13.cell? ⟨w.heap.size + 1, 0, none⟩ = some (.int .u64 bn) := (blk_cell B_13 0).trans rfl
        have Bc1 : w13.cell? ⟨w.heap.size + 1, 1, none⟩ = some (.int .u64 bd) := (blk_cell B_13 1).trans rfl
        have Bcf := blk_free B_13
        have X1c0 : w13.cell? ⟨w2.heap.size, 0, none⟩ = some (.int .u64 x0) := (blk_cell X1_13 0).trans rfl
        have X1c1 : w13.cell? ⟨w2.heap.size, 1, none⟩ = some (.int .u64 x1) := (blk_cell X1_13 1).trans rfl
        have X1cf := blk_free X1_13
        have Y1c0 : w13.cell? ⟨xY1, 0, none⟩ = some (.int .u64 x0) := (blk_cell Y1_13 0).trans rfl
        have Y1c1 : w13.cell? ⟨xY1, 1, none⟩ = some (.int .u64 x1) := (blk_cell Y1_13 1).trans rfl
        have Y1cf := blk_free Y1_13
        have X2c0 : w13.cell? ⟨w5.heap.size, 0, none⟩ = some (.int .u64 z0) := (blk_cell X2_13 0).trans rfl
        have X2c1 : w13.cell? ⟨w5.heap.size, 1, none⟩ = some (.int .u64 z1) := (blk_cell X2_13 1).trans rfl
        have X2cf := blk_free X2_13
        have Y2c0 : w13.cell? ⟨xY2, 0, none⟩ = some (.int .u64 z0) := (blk_cell Y2_13 0).trans rfl
        have Y2c1 : w13.cell? ⟨xY2, 1, none⟩ = some (.int .u64 z1) := (blk_cell Y2_13 1).trans rfl
        have Y2cf := blk_free Y2_13
        have X3c0 : w13.cell? ⟨w8.heap.size, 0, none⟩ = some (.int .u64 p0) := (blk_cell X3_13 0).trans rfl
        have X3c1 : w13.cell? ⟨w8.heap.size, 1, none⟩ = some (.int .u64 p1) := (blk_cell X3_13 1).trans rfl
        have X3cf := blk_free X3_13
        have Y3c0 : w13.cell? ⟨xY3, 0, none⟩ = some (.int .u64 p0) := (blk_cell Y3_13 0).trans rfl
        have Y3c1 : w13.cell? ⟨xY3, 1, none⟩ = some (.int .u64 p1) := (blk_cell Y3_13 1).trans rfl
        have Y3cf := blk_free Y3_13
        have Al13 : w.heap.size < w13.heap.size := by omega
        have Bl13 : w.heap.size + 1 < w13.heap.size := by omega
        have X1l13 : w2.heap.size < w13.heap.size := by omega
        have Y1l13 : xY1 < w13.heap.size := by omega
        have X2l13 : w5.heap.size < w13.heap.size := by omega
        have Y2l13 : xY2 < w13.heap.size := by omega
        have X3l13 : w8.heap.size < w13.heap.size := by omega
        have Y3l13 : xY3 < w13.heap.size := by omega
        go_wp2
        go_ret
        exact ⟨by first | rfl | simp, (by repeat (first | with_reducible assumption | with_reducible exact Below.refl _ _ | with_reducible refine Below.drew ?_ | with_reducible refine below_drewN ?_ _ | with_reducible refine below_alloc ?_ _ | with_reducible refine Below.alloc ?_ (by first | omega | (simp; done) | (simp; omega)) _ | with_reducible refine Below.setCell ?_ (by first | omega | (simp; done) | (simp; omega)) _ | with_reducible refine below_setRow ?_ (by first | omega | (simp; done) | (simp; omega)) _))⟩
theorem ratioReckons_any (an ad bn bd : Int) (w : World) (an0 : 0 ≤ an) (an1 : an ≤ 18446744073709551615) (ad0 : 0 ≤ ad) (ad1 : ad ≤ 18446744073709551615) (bn0 : 0 ≤ bn) (bn1 : bn ≤ 18446744073709551615) (bd0 : 0 ≤ bd) (bd1 : bd ≤ 18446744073709551615) :
    Calls Try.prog 6 #[.agg #[.int .u64 an, .int .u64 ad], .agg #[.int .u64 bn, .int .u64 bd]] w fun e w' => e = .returned (.bool true) ∧ Below w.heap.size w w' := by
  exact reckons_w an ad bn bd _ _ _ _ _ _ _ _ _ w (hid fun W => addF_any an ad bn bd W an0 an1 ad0 ad1 bn0 bn1 bd0 bd1) (hid fun W => raddF_any an ad bn bd W an0 an1 ad0 ad1 bn0 bn1 bd0 bd1)
    (hid fun W => subF_any an ad bn bd W an0 an1 ad0 ad1 bn0 bn1 bd0 bd1) (hid fun W => rsubF_any an ad bn bd W an0 an1 ad0 ad1 bn0 bn1 bd0 bd1) (hid fun W => mulF_any an ad bn bd W an0 an1 ad0 ad1 bn0 bn1 bd0 bd1) (hid fun W => rmulF_any an ad bn bd W an0 an1 ad0 ad1 bn0 bn1 bd0 bd1)
end Go.Proofs.Ytbkopmgfkokmgaa
