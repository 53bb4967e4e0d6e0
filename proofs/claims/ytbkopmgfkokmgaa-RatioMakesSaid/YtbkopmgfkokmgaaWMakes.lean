/- The walk of RatioMakes: every two numbers make the lowest fraction, every two fractions are compared exactly. Asked: that the numbers are words. -/
import Derived.Test.YtbkopmgfkokmgaaSame
namespace Go.Proofs.Ytbkopmgfkokmgaa
open Go.RowKit
set_option maxRecDepth 100000 in
set_option maxHeartbeats 4000000 in
theorem ratioMakes_any (an ad bn bd : Int) (w : World) (an0 : 0 ≤ an) (an1 : an ≤ 18446744073709551615) (ad0 : 0 ≤ ad) (ad1 : ad ≤ 18446744073709551615) (bn0 : 0 ≤ bn) (bn1 : bn ≤ 18446744073709551615) (bd0 : 0 ≤ bd) (bd1 : bd ≤ 18446744073709551615) :
    Calls Try.prog 3 #[.agg #[.int .u64 an, .int .u64 ad], .agg #[.int .u64 bn, .int .u64 bd]] w fun e w' => e = .returned (.bool true) ∧ Below w.heap.size w w' := by
  obtain ⟨⟨⟨x0, x1⟩, x2⟩, hx⟩ : ∃ r, newR an ad = r := ⟨_, rfl⟩
  obtain ⟨⟨c0, c1⟩, hc0⟩ : ∃ r, cmpR an ad bn bd = r := ⟨_, rfl⟩
  have hn : ∀ W, Calls Try.prog 9 #[.int .u64 an, .int .u64 ad] W fun e w' => e = .returned (.tuple #[.agg #[.int .u64 x0, .int .u64 x1], .int .i64 x2]) ∧ Below W.heap.size W w' := fun W => by
    have h := new_any an ad W an0 an1 ad0 ad1; rw [hx] at h; exact h
  have HN := hid hn
  clear hn
  have hm : ∀ W, Calls Try.prog 10 #[.int .u64 an, .int .u64 ad] W fun e w' => e = .returned (.tuple #[.agg #[.int .u64 x0, .int .u64 x1], .int .i64 x2]) ∧ Below W.heap.size W w' := fun W => by
    have h := rnew_any an ad W an0 an1 ad0 ad1; rw [hx] at h; exact h
  have HM := hid hm
  clear hm
  have hc : ∀ W, Calls Try.prog 11 #[.agg #[.int .u64 an, .int .u64 ad], .agg #[.int .u64 bn, .int .u64 bd]] W fun e w' => e = .returned (.tuple #[.int .i64 c0, .int .i64 c1]) ∧ Below W.heap.size W w' := fun W => by
    have h := cmpR_any an ad bn bd W an0 an1 ad0 ad1 bn0 bn1 bd0 bd1; rw [hc0] at h; exact h
  have HC := hid hc
  clear hc
  have hd : ∀ W, Calls Try.prog 12 #[.agg #[.int .u64 an, .int .u64 ad], .agg #[.int .u64 bn, .int .u64 bd]] W fun e w' => e = .returned (.tuple #[.int .i64 c0, .int .i64 c1]) ∧ Below W.heap.size W w' := fun W => by
    have h := rcmp_any an ad bn bd W an0 an1 ad0 ad1 bn0 bn1 bd0 bd1; rw [hc0] at h; exact h
  have HD := hid hd
  clear hd
  clear hx hc0 an0 an1 ad0 ad1 bn0 bn1 bd0 bd1
  go_enter Try.func3, Try.ntmps3
  go_wp2_with fail
  refine (awake2_any _).mono ?_
  rintro e w1 ⟨rfl, hb1⟩
  have hs1 := hb1.size
  try simp only [World.size_alloc, World.size_setCell] at hs1
  have X_1 : w1.heap[w.heap.size]? = some (.cells #[.int .u64 an, .int .u64 ad] 24 (0, 0)) := below_at hb1 (by first | omega | (simp; done) | (simp; omega)) (by (repeat (first | (with_reducible assumption) | (with_reducible exact alloc_at _ _) | ((with_reducible apply alloc_at'); (simp; done)) | (with_reducible apply alloc_at_lt) | (with_reducible apply heap_drew_at) | (with_reducible apply heap_drewN_at) | (with_reducible apply heap_setCell_same) | ((with_reducible apply heap_set_ne); (first | omega | (dsimp only; omega) | (simp; done) | (simp; omega))) | (with_reducible apply setRow_at) | ((with_reducible apply setRow_ne); (first | omega | (dsimp only; omega) | (simp; done) | (simp; omega))))))
  have Y_1 : w1.heap[w.heap.size + 1]? = some (.cells #[.int .u64 bn, .int .u64 bd] 24 (0, 0)) := below_at hb1 (by first | omega | (simp; done) | (simp; omega)) (by (repeat (first | (with_reducible assumption) | (with_reducible exact alloc_at _ _) | ((with_reducible apply alloc_at'); (simp; done)) | (with_reducible apply alloc_at_lt) | (with_reducible apply heap_drew_at) | (with_reducible apply heap_drewN_at) | (with_reducible apply heap_setCell_same) | ((with_reducible apply heap_set_ne); (first | omega | (dsimp only; omega) | (simp; done) | (simp; omega))) | (with_reducible apply setRow_at) | ((with_reducible apply setRow_ne); (first | omega | (dsimp only; omega) | (simp; done) | (simp; omega))))))
  have B1 : Below w.heap.size w w1 := Below.trans (by repeat (first | with_reducible assumption | with_reducible exact Below.refl _ _ | with_reducible refine Below.drew ?_ | with_reducible refine below_drewN ?_ _ | with_reducible refine below_alloc ?_ _ | with_reducible refine Below.alloc ?_ (by first | omega | (simp; done) | (simp; omega)) _ | with_reducible refine Below.setCell ?_ (by first | omega | (simp; done) | (simp; omega)) _ | with_reducible refine below_setRow ?_ (by first | omega | (simp; done) | (simp; omega)) _)) (hb1.mono (by first | omega | (simp; done) | (simp; omega)))
  clear hb1
  have Xc0 : w1.cell? ⟨w.heap.size, 0, none⟩ = some (.int .u64 an) := (blk_cell X_1 0).trans rfl
  have Xc1 : w1.cell? ⟨w.heap.size, 1, none⟩ = some (.int .u64 ad) := (blk_cell X_1 1).trans rfl
  have Xcf := blk_free X_1
  have Yc0 : w1.cell? ⟨w.heap.size + 1, 0, none⟩ = some (.int .u64 bn) := (blk_cell Y_1 0).trans rfl
  have Yc1 : w1.cell? ⟨w.heap.size + 1, 1, none⟩ = some (.int .u64 bd) := (blk_cell Y_1 1).trans rfl
  have Ycf := blk_free Y_1
  have Xl1 : w.heap.size < w1.heap.size := by omega
  have Yl1 : w.heap.size + 1 < w1.heap.size := by omega
  go_wp2_with fail
  refine (HN.out _).mono ?_
  rintro e w2 ⟨rfl, hb2⟩
  have hs2 := hb2.size
  try simp only [World.size_alloc, World.size_setCell] at hs2
  have X_2 : w2.heap[w.heap.size]? = some (.cells #[.int .u64 an, .int .u64 ad] 24 (0, 0)) := below_at hb2 (by first | omega | (simp; done) | (simp; omega)) (by (repeat (first | (with_reducible assumption) | (with_reducible exact alloc_at _ _) | ((with_reducible apply alloc_at'); (simp; done)) | (with_reducible apply alloc_at_lt) | (with_reducible apply heap_drew_at) | (with_reducible apply heap_drewN_at) | (with_reducible apply heap_setCell_same) | ((with_reducible apply heap_set_ne); (first | omega | (dsimp only; omega) | (simp; done) | (simp; omega))) | (with_reducible apply setRow_at) | ((with_reducible apply setRow_ne); (first | omega | (dsimp only; omega) | (simp; done) | (simp; omega))))))
  have Y_2 : w2.heap[w.heap.size + 1]? = some (.cells #[.int .u64 bn, .int .u64 bd] 24 (0, 0)) := below_at hb2 (by first | omega | (simp; done) | (simp; omega)) (by (repeat (first | (with_reducible assumption) | (with_reducible exact alloc_at _ _) | ((with_reducible apply alloc_at'); (simp; done)) | (with_reducible apply alloc_at_lt) | (with_reducible apply heap_drew_at) | (with_reducible apply heap_drewN_at) | (with_reducible apply heap_setCell_same) | ((with_reducible apply heap_set_ne); (first | omega | (dsimp only; omega) | (simp; done) | (simp; omega))) | (with_reducible apply setRow_at) | ((with_reducible apply setRow_ne); (first | omega | (dsimp only; omega) | (simp; done) | (simp; omega))))))
  have B2 : Below w.heap.size w w2 := Below.trans (by repeat (first | with_reducible assumption | with_reducible exact Below.refl _ _ | with_reducible refine Below.drew ?_ | with_reducible refine below_drewN ?_ _ | with_reducible refine below_alloc ?_ _ | with_reducible refine Below.alloc ?_ (by first | omega | (simp; done) | (simp; omega)) _ | with_reducible refine Below.setCell ?_ (by first | omega | (simp; done) | (simp; omega)) _ | with_reducible refine below_setRow ?_ (by first | omega | (simp; done) | (simp; omega)) _)) (hb2.mono (by first | omega | (simp; done) | (simp; omega)))
  clear hb2 X_1 Y_1
  clear Xc0 Xc1 Xcf
  clear Yc0 Yc1 Ycf
  have Xc0 : w2.cell? ⟨w.heap.size, 0, none⟩ = some (.int .u64 an) := (blk_cell X_2 0).trans rfl
  have Xc1 : w2.cell? ⟨w.heap.size, 1, none⟩ = some (.int .u64 ad) := (blk_cell X_2 1).trans rfl
  have Xcf := blk_free X_2
  have Yc0 : w2.cell? ⟨w.heap.size + 1, 0, none⟩ = some (.int .u64 bn) := (blk_cell Y_2 0).trans rfl
  have Yc1 : w2.cell? ⟨w.heap.size + 1, 1, none⟩ = some (.int .u64 bd) := (blk_cell Y_2 1).trans rfl
  have Ycf := blk_free Y_2
  have Xl2 : w.heap.size < w2.heap.size := by omega
  have Yl2 : w.heap.size + 1 < w2.heap.size := by omega
  go_wp2_with fail
  refine (HM.out _).mono ?_
  rintro e w3 ⟨rfl, hb3⟩
  have hs3 := hb3.size
  try simp only [World.size_alloc, World.size_setCell] at hs3
  have X_3 : w3.heap[w.heap.size]? = some (.cells #[.int .u64 an, .int .u64 ad] 24 (0, 0)) := below_at hb3 (by first | omega | (simp; done) | (simp; omega)) (by (repeat (first | (with_reducible assumption) | (with_reducible exact alloc_at _ _) | ((with_reducible apply alloc_at'); (simp; done)) | (with_reducible apply alloc_at_lt) | (with_reducible apply heap_drew_at) | (with_reducible apply heap_drewN_at) | (with_reducible apply heap_setCell_same) | ((with_reducible apply heap_set_ne); (first | omega | (dsimp only; omega) | (simp; done) | (simp; omega))) | (with_reducible apply setRow_at) | ((with_reducible apply setRow_ne); (first | omega | (dsimp only; omega) | (simp; done) | (simp; omega))))))
  have Y_3 : w3.heap[w.heap.size + 1]? = some (.cells #[.int .u64 bn, .int .u64 bd] 24 (0, 0)) := below_at hb3 (by first | omega | (simp; done) | (simp; omega)) (by (repeat (first | (with_reducible assumption) | (with_reducible exact alloc_at _ _) | ((with_reducible apply alloc_at'); (simp; done)) | (with_reducible apply alloc_at_lt) | (with_reducible apply heap_drew_at) | (with_reducible apply heap_drewN_at) | (with_reducible apply heap_setCell_same) | ((with_reducible apply heap_set_ne); (first | omega | (dsimp only; omega) | (simp; done) | (simp; omega))) | (with_reducible apply setRow_at) | ((with_reducible apply setRow_ne); (first | omega | (dsimp only; omega) | (simp; done) | (simp; omega))))))
  have P_3 : w3.heap[w2.heap.size]? = some (.cells #[.int .u64 x0, .int .u64 x1] 24 (0, 0)) := below_at hb3 (by first | omega | (simp; done) | (simp; omega)) (by (repeat (first | (with_reducible assumption) | (with_reducible exact alloc_at _ _) | ((with_reducible apply alloc_at'); (simp; done)) | (with_reducible apply alloc_at_lt) | (with_reducible apply heap_drew_at) | (with_reducible apply heap_drewN_at) | (with_reducible apply heap_setCell_same) | ((with_reducible apply heap_set_ne); (first | omega | (dsimp only; omega) | (simp; done) | (simp; omega))) | (with_reducible apply setRow_at) | ((with_reducible apply setRow_ne); (first | omega | (dsimp only; omega) | (simp; done) | (simp; omega))))))
  have B3 : Below w.heap.size w w3 := Below.trans (by repeat (first | with_reducible assumption | with_reducible exact Below.refl _ _ | with_reducible refine Below.drew ?_ | with_reducible refine below_drewN ?_ _ | with_reducible refine below_alloc ?_ _ | with_reducible refine Below.alloc ?_ (by first | omega | (simp; done) | (simp; omega)) _ | with_reducible refine Below.setCell ?_ (by first | omega | (simp; done) | (simp; omega)) _ | with_reducible refine below_setRow ?_ (by first | omega | (simp; done) | (simp; omega)) _)) (hb3.mono (by first | omega | (simp; done) | (simp; omega)))
  clear hb3 X_2 Y_2
  clear Xc0 Xc1 Xcf
  clear Yc0 Yc1 Ycf
  have Xc0 : w3.cell? ⟨w.heap.size, 0, none⟩ = some (.int .u64 an) := (blk_cell X_3 0).trans rfl
  have Xc1 : w3.cell? ⟨w.heap.size, 1, none⟩ = some (.int .u64 ad) := (blk_cell X_3 1).trans rfl
  have Xcf := blk_free X_3
  have Yc0 : w3.cell? ⟨w.heap.size + 1, 0, none⟩ = some (.int .u64 bn) := (blk_cell Y_3 0).trans rfl
  have Yc1 : w3.cell? ⟨w.heap.size + 1, 1, none⟩ = some (.int .u64 bd) := (blk_cell Y_3 1).trans rfl
  have Ycf := blk_free Y_3
  have Pc0 : w3.cell? ⟨w2.heap.size, 0, none⟩ = some (.int .u64 x0) := (blk_cell P_3 0).trans rfl
  have Pc1 : w3.cell? ⟨w2.heap.size, 1, none⟩ = some (.int .u64 x1) := (blk_cell P_3 1).trans rfl
  have Pcf := blk_free P_3
  have Xl3 : w.heap.size < w3.heap.size := by omega
  have Yl3 : w.heap.size + 1 < w3.heap.size := by omega
  have Pl3 : w2.heap.size < w3.heap.size := by omega
  go_wp2_with fail
  refine (HC.out _).mono ?_
  rintro e w4 ⟨rfl, hb4⟩
  have hs4 := hb4.size
  try simp only [World.size_alloc, World.size_setCell] at hs4
  have X_4 : w4.heap[w.heap.size]? = some (.cells #[.int .u64 an, .int .u64 ad] 24 (0, 0)) := below_at hb4 (by first | omega | (simp; done) | (simp; omega)) (by (repeat (first | (with_reducible assumption) | (with_reducible exact alloc_at _ _) | ((with_reducible apply alloc_at'); (simp; done)) | (with_reducible apply alloc_at_lt) | (with_reducible apply heap_drew_at) | (with_reducible apply heap_drewN_at) | (with_reducible apply heap_setCell_same) | ((with_reducible apply heap_set_ne); (first | omega | (dsimp only; omega) | (simp; done) | (simp; omega))) | (with_reducible apply setRow_at) | ((with_reducible apply setRow_ne); (first | omega | (dsimp only; omega) | (simp; done) | (simp; omega))))))
  have Y_4 : w4.heap[w.heap.size + 1]? = some (.cells #[.int .u64 bn, .int .u64 bd] 24 (0, 0)) := below_at hb4 (by first | omega | (simp; done) | (simp; omega)) (by (repeat (first | (with_reducible assumption) | (with_reducible exact alloc_at _ _) | ((with_reducible apply alloc_at'); (simp; done)) | (with_reducible apply alloc_at_lt) | (with_reducible apply heap_drew_at) | (with_reducible apply heap_drewN_at) | (with_reducible apply heap_setCell_same) | ((with_reducible apply heap_set_ne); (first | omega | (dsimp only; omega) | (simp; done) | (simp; omega))) | (with_reducible apply setRow_at) | ((with_reducible apply setRow_ne); (first | omega | (dsimp only; omega) | (simp; done) | (simp; omega))))))
  have P_4 : w4.heap[w2.heap.size]? = some (.cells #[.int .u64 x0, .int .u64 x1] 24 (0, 0)) := below_at hb4 (by first | omega | (simp; done) | (simp; omega)) (by (repeat (first | (with_reducible assumption) | (with_reducible exact alloc_at _ _) | ((with_reducible apply alloc_at'); (simp; done)) | (with_reducible apply alloc_at_lt) | (with_reducible apply heap_drew_at) | (with_reducible apply heap_drewN_at) | (with_reducible apply heap_setCell_same) | ((with_reducible apply heap_set_ne); (first | omega | (dsimp only; omega) | (simp; done) | (simp; omega))) | (with_reducible apply setRow_at) | ((with_reducible apply setRow_ne); (first | omega | (dsimp only; omega) | (simp; done) | (simp; omega))))))
  have Q_4 : w4.heap[w3.heap.size]? = some (.cells #[.int .u64 x0, .int .u64 x1] 29 (0, 0)) := below_at hb4 (by first | omega | (simp; done) | (simp; omega)) (by (repeat (first | (with_reducible assumption) | (with_reducible exact alloc_at _ _) | ((with_reducible apply alloc_at'); (simp; done)) | (with_reducible apply alloc_at_lt) | (with_reducible apply heap_drew_at) | (with_reducible apply heap_drewN_at) | (with_reducible apply heap_setCell_same) | ((with_reducible apply heap_set_ne); (first | omega | (dsimp only; omega) | (simp; done) | (simp; omega))) | (with_reducible apply setRow_at) | ((with_reducible apply setRow_ne); (first | omega | (dsimp only; omega) | (simp; done) | (simp; omega))))))
  have B4 : Below w.heap.size w w4 := Below.trans (by repeat (first | with_reducible assumption | with_reducible exact Below.refl _ _ | with_reducible refine Below.drew ?_ | with_reducible refine below_drewN ?_ _ | with_reducible refine below_alloc ?_ _ | with_reducible refine Below.alloc ?_ (by first | omega | (simp; done) | (simp; omega)) _ | with_reducible refine Below.setCell ?_ (by first | omega | (simp; done) | (simp; omega)) _ | with_reducible refine below_setRow ?_ (by first | omega | (simp; done) | (simp; omega)) _)) (hb4.mono (by first | omega | (simp; done) | (simp; omega)))
  clear hb4 X_3 Y_3 P_3
  clear Xc0 Xc1 Xcf
  clear Yc0 Yc1 Ycf
  clear Pc0 Pc1 Pcf
  have Xc0 : w4.cell? ⟨w.heap.size, 0, none⟩ = some (.int .u64 an) := (blk_cell X_4 0).trans rfl
  have Xc1 : w4.cell? ⟨w.heap.size, 1, none⟩ = some (.int .u64 ad) := (blk_cell X_4 1).trans rfl
  have Xcf := blk_free X_4
  have Yc0 : w4.cell? ⟨w.heap.size + 1, 0, none⟩ = some (.int .u64 bn) := (blk_cell Y_4 0).trans rfl
  have Yc1 : w4.cell? ⟨w.heap.size + 1, 1, none⟩ = some (.int .u64 bd) := (blk_cell Y_4 1).trans rfl
  have Ycf := blk_free Y_4
  have Pc0 : w4.cell? ⟨w2.heap.size, 0, none⟩ = some (.int .u64 x0) := (blk_cell P_4 0).trans rfl
  have Pc1 : w4.cell? ⟨w2.heap.size, 1, none⟩ = some (.int .u64 x1) := (blk_cell P_4 1).trans rfl
  have Pcf := blk_free P_4
  have Qc0 : w4.cell? ⟨w3.heap.size, 0, none⟩ = some (.int .u64 x0) := (blk_cell Q_4 0).trans rfl
  have Qc1 : w4.cell? ⟨w3.heap.size, 1, none⟩ = some (.int .u64 x1) := (blk_cell Q_4 1).trans rfl
  have Qcf := blk_free Q_4
  have Xl4 : w.heap.size < w4.heap.size := by omega
  have Yl4 : w.heap.size + 1 < w4.heap.size := by omega
  have Pl4 : w2.heap.size < w4.heap.size := by omega
  have Ql4 : w3.heap.size < w4.heap.size := by omega
  go_upto_region 6 with fail
  go_cut [11, 12] (fun s t wx => s = .int .i64 c0 ∧ t = .int .i64 c1 ∧ Below w4.heap.size w4 wx)
  case first =>
    go_region_held3 (fun w' => Below w4.heap.size w4 w' ∧ (∀ b o, b < w4.heap.size → w'.cell? ⟨b, o, none⟩ = w4.cell? ⟨b, o, none⟩) ∧ ∀ b o, b < w4.heap.size → w'.frozen? ⟨b, o, none⟩ = w4.frozen? ⟨b, o, none⟩) (first | ((try go_split_ands); (try dsimp only); refine same_of ?_; (repeat (first | with_reducible assumption | with_reducible exact Below.refl _ _ | with_reducible refine Below.drew ?_ | with_reducible refine below_drewN ?_ _ | with_reducible refine below_alloc ?_ _ | with_reducible refine Below.alloc ?_ (by first | omega | (simp; done) | (simp; omega)) _ | with_reducible refine Below.setCell ?_ (by first | omega | (simp; done) | (simp; omega)) _ | with_reducible refine below_setRow ?_ (by first | omega | (simp; done) | (simp; omega)) _)); done) | ((try go_split_ands); (try dsimp only); refine same_of ?_; (repeat (first | with_reducible refine below_call ?_ hb9 | with_reducible assumption | with_reducible exact Below.refl _ _ | with_reducible refine Below.drew ?_ | with_reducible refine below_alloc ?_ _)); done)) (first | (go_at_call 13; refine (plain_any _ _ _).mono ?_; rintro e w9 ⟨rfl, hb9⟩) | (go_at_call 12; refine (HD.out _).mono ?_; rintro e w9 ⟨rfl, hb9⟩))
    all_goals
      obtain ⟨hb8, -, -⟩ : Below w4.heap.size w4 _ ∧ _ ∧ _ := by assumption
      go_wp2_with fail
      go_meet
      exact ⟨by first | rfl | simp, by first | rfl | simp, hb8⟩
  case rest =>
    obtain ⟨rfl, rfl, hb5⟩ := hcut
    have B5 : Below w.heap.size w wc := Below.trans B4 (hb5.mono B4.size)
    have P_5 : wc.heap[w2.heap.size]? = some (.cells #[.int .u64 x0, .int .u64 x1] 24 (0, 0)) := below_at hb5 Pl4 P_4
    have Q_5 : wc.heap[w3.heap.size]? = some (.cells #[.int .u64 x0, .int .u64 x1] 29 (0, 0)) := below_at hb5 Ql4 Q_4
    clear Xc0 Xc1 Xcf Yc0 Yc1 Ycf Pc0 Pc1 Pcf Qc0 Qc1 Qcf X_4 Y_4 P_4 Q_4
    have Pc0 : wc.cell? ⟨w2.heap.size, 0, none⟩ = some (.int .u64 x0) := (blk_cell P_5 0).trans rfl
    have Pc1 : wc.cell? ⟨w2.heap.size, 1, none⟩ = some (.int .u64 x1) := (blk_cell P_5 1).trans rfl
    have Qc0 : wc.cell? ⟨w3.heap.size, 0, none⟩ = some (.int .u64 x0) := (blk_cell Q_5 0).trans rfl
    have Qc1 : wc.cell? ⟨w3.heap.size, 1, none⟩ = some (.int .u64 x1) := (blk_cell Q_5 1).trans rfl
    clear hb5 P_5 Q_5
    go_wp2_with fail
    refine (same_any _ _ _ _).mono ?_
    rintro e w6 ⟨rfl, hb6⟩
    go_wp2
    go_ret
    exact ⟨by first | rfl | simp, Below.trans B5 (hb6.mono B5.size)⟩
end Go.Proofs.Ytbkopmgfkokmgaa
