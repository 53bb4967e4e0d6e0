/- WorkerStale's walk: a message of an epoch that is past is refused, and changes nothing. -/
import Derived.Test.YtkplhobiciddoaaWkA
namespace Go.Proofs.Ytkplhobiciddoaa
open Go.RowKit Go.WideShapes
set_option maxRecDepth 20000 in
set_option maxHeartbeats 2000000 in
theorem workerStale_any (x y a b c d nw : Int) (w : World) (hx : 0 ≤ x ∧ x ≤ 4294967295) (hy : 0 ≤ y ∧ y ≤ 4294967295) (hn : 0 ≤ nw ∧ nw ≤ 65535) :
    Calls Try.prog 3 #[.agg #[.int .u32 x, .int .u32 y], .agg #[.int .i64 a, .int .i64 b, .int .i64 c, .int .i64 d], .int .u16 nw] w fun e w' => e = .returned (.bool true) ∧ Below w.heap.size w w' := by
  obtain ⟨hx0, hx1⟩ := hx
  obtain ⟨hy0, hy1⟩ := hy
  obtain ⟨hn0, hn1⟩ := hn
  go_enter Try.func3, Try.ntmps3
  go_wp2_with fail
  go_region
  go_wp2_with fail
  refine (awake_any _).mono ?_
  rintro e w1 ⟨rfl, hb1⟩
  have hs1 := hb1.size
  simp only [heap_drew, World.size_alloc] at hs1
  have B1 : Below w.heap.size w w1 := Below.trans (by repeat (first | with_reducible assumption | with_reducible exact Below.refl _ _ | with_reducible refine Below.drew ?_ | with_reducible refine below_drewN ?_ _ | with_reducible refine below_alloc ?_ _ | with_reducible refine Below.alloc ?_ (by first | omega | (simp; done) | (simp; omega)) _ | with_reducible refine Below.setCell ?_ (by first | omega | (simp; done) | (simp; omega)) _ | with_reducible refine below_setRow ?_ (by first | omega | (simp; done) | (simp; omega)) _)) (hb1.mono (by first | omega | (simp; done) | (simp; omega)))
  have z := below_at hb1 (n := w.heap.size + 1) (by first | omega | (simp; done) | (simp; omega)) (by (repeat (first | (with_reducible assumption) | (with_reducible exact alloc_at _ _) | ((with_reducible apply alloc_at'); (simp; done)) | (with_reducible apply alloc_at_lt) | (with_reducible apply heap_drew_at) | (with_reducible apply heap_drewN_at) | (with_reducible apply heap_setCell_same) | ((with_reducible apply heap_set_ne); (first | omega | (dsimp only; omega) | (simp; done) | (simp; omega))) | (with_reducible apply setRow_at) | ((with_reducible apply setRow_ne); (first | omega | (dsimp only; omega) | (simp; done) | (simp; omega))))))
  have hl1 : w.heap.size + 1 < w1.heap.size := by omega
  clear hb1
  go_upto_region 5 with fail
  obtain ⟨k, hk⟩ : ∃ k, 2 + x % 1000000 = k := ⟨_, rfl⟩
  have hk0 : 2 ≤ k := by omega
  have hk1 : k ≤ 1000001 := by omega
  have hd : k - 1 ≠ 0 := by omega
  rw [hk]
  clear hk hx0 hx1
  have hm0 := Int.emod_nonneg y hd
  have hm1 := Int.emod_lt_of_pos y (show 0 < k - 1 by omega)
  go_upto_region 6 with fail
  obtain ⟨o, ho⟩ : ∃ o, k - 1 - y % (k - 1) = o := ⟨_, rfl⟩
  have ho0 : 1 ≤ o := by omega
  have ho1 : o < k := by omega
  rw [ho]
  clear ho hy0 hy1 hd hm0 hm1
  have r1 := regR_zero o 0 (1, 0, 0, 0) (by decide) (by omega) (by omega) (by omega) (by omega)
  have r2 := regR_anew ⟨sA, o, (1, 0, 0, 0), 0, true⟩ k nw (2, 0, 0, 0) rfl (by decide) (by omega) (by omega) (by omega) (by omega) (by simp only; omega)
  have r3 := regR_late ⟨sA, k, (2, 0, 0, 0), nw, true⟩ o (nw + 1) (a, b, c, d) rfl (by omega) (by omega) (by omega) (by omega) (by simp only; omega)
  have r4 := regR_late ⟨sA, k, (2, 0, 0, 0), nw, true⟩ k (nw + 1) (a, b, c, d) rfl (by omega) (by omega) (by omega) (by omega) (by simp only; omega)
  have rb : beatR [⟨sA, k, (2, 0, 0, 0), nw, true⟩] sA o (nw + 1) = (14, [⟨sA, k, (2, 0, 0, 0), nw, true⟩]) := by
    rw [beatR_some (fnd_one _ rfl), if_pos (.inl (by simp only; omega))]
  obtain ⟨q, hq⟩ : ∃ q : Int, (if okV (a, b, c, d) = true then (14 : Int) else 4) = q := ⟨_, rfl⟩
  have hq' : q = 14 ∨ q = 4 := by rw [← hq]; split <;> simp
  rw [hq] at r3 r4
  have R3 := hid r3
  have R4 := hid r4
  have RB := hid rb
  clear hq r3 r4 rb
  go_wp2_with fail
  refine (new_b w1.heap.size w1 (Nat.le_refl _)).mono ?_
  rintro e w2 ⟨rfl, hb2, hT2⟩
  have y2 := below_at hb2 hl1 z
  clear z
  have B2 := B1.trans (hb2.mono B1.size)
  have hs2 := hb2.size
  clear hb2
  go_wp2_with fail
  refine (register_any w1.heap.size w1.heap.size [] sA o 1 0 0 0 0 w2 hT2 sA_le).mono ?_
  rw [r1]
  rintro e w3 ⟨rfl, hT3, hB3, -⟩
  have y3 := below_at hB3 hl1 y2
  have B3 := B2.trans (hB3.mono B1.size)
  have hs3 := hB3.size
  clear hB3 hT2 r1
  go_wp2_with fail
  refine (register_any w1.heap.size w1.heap.size _ sA k 2 0 0 0 nw w3 hT3 sA_le).mono ?_
  rw [r2]
  rintro e w4 ⟨rfl, hT4, hB4, -⟩
  have y4 := below_at hB4 hl1 y3
  have B4 := B3.trans (hB4.mono B1.size)
  have hs4 := hB4.size
  clear hB4 hT3 r2
  go_wp2_with fail
  refine (get_b w1.heap.size w1.heap.size _ sA w4 hT4 sA_le).mono ?_
  rw [getR_one _ rfl]
  rintro e w5 ⟨rfl, hb5⟩
  have y5 := below_at hb5 (Nat.lt_of_lt_of_le hl1 (by omega)) y4
  have B5 := B4.trans (hb5.mono B4.size)
  have hT5 := hT4.below hb5
  have hs5 := hb5.size
  clear hb5 hT4
  have E : ∀ w, (Op.equalIn 10000 34 (.agg #[.string sA, .int .i64 k, .int .i64 2, .int .i64 0, .int .i64 0, .int .i64 0, .int .i64 nw, .bool true]) (.agg #[.string sA, .int .i64 k, .int .i64 2, .int .i64 0, .int .i64 0, .int .i64 0, .int .i64 nw, .bool true])).run Try.prog w = .ok true w := fun w => by
    have h := eqN ⟨sA, k, (2, 0, 0, 0), nw, true⟩ ⟨sA, k, (2, 0, 0, 0), nw, true⟩ w
    rw [(eqNB_iff _ _).2 rfl] at h
    exact h
  have HE := hid E
  clear E
  simp only [ndV, cellsN]
  go_wp2_with fail
  refine (beat_any w1.heap.size w1.heap.size _ sA o (nw + 1) _ (hT5.below (by repeat (first | with_reducible assumption | with_reducible exact Below.refl _ _ | with_reducible refine Below.drew ?_ | with_reducible refine below_drewN ?_ _ | with_reducible refine below_alloc ?_ _ | with_reducible refine Below.alloc ?_ (by first | omega | (simp; done) | (simp; omega)) _ | with_reducible refine Below.setCell ?_ (by first | omega | (simp; done) | (simp; omega)) _ | with_reducible refine below_setRow ?_ (by first | omega | (simp; done) | (simp; omega)) _))) sA_le).mono ?_
  rw [RB.out]
  rintro e w6 ⟨rfl, hT6, hB6, hK6⟩
  have N6 : w6.heap[w5.heap.size]? = some (.cells #[.string sA, .int .i64 k, .int .i64 2, .int .i64 0, .int .i64 0, .int .i64 0, .int .i64 nw, .bool true] 34 (0, 0)) := hK6 _ _ _ _ (alloc_at _ _) (by decide) (by decide)
  have y6 := below_at hB6 hl1 (alloc_at_lt y5 _)
  have B6 : Below w.heap.size w w6 := Below.trans (by repeat (first | with_reducible assumption | with_reducible exact Below.refl _ _ | with_reducible refine Below.drew ?_ | with_reducible refine below_drewN ?_ _ | with_reducible refine below_alloc ?_ _ | with_reducible refine Below.alloc ?_ (by first | omega | (simp; done) | (simp; omega)) _ | with_reducible refine Below.setCell ?_ (by first | omega | (simp; done) | (simp; omega)) _ | with_reducible refine below_setRow ?_ (by first | omega | (simp; done) | (simp; omega)) _)) (hB6.mono B1.size)
  have hs6 := hB6.size
  simp only [World.size_alloc] at hs6
  clear hB6 hK6 hT5 y5
  have n6 : w5.heap.size < w6.heap.size := by omega
  obtain ⟨z0, z1, z2, z3, zf⟩ := four y6
  have yl6 : w.heap.size + 1 < w6.heap.size := by omega
  go_wp2_with fail
  refine (register_any w1.heap.size w1.heap.size _ sA o a b c d (nw + 1) w6 hT6 sA_le).mono ?_
  rw [R3.out]
  rintro e w7 ⟨rfl, hT7, hB7, hK7⟩
  have N7 := hK7 _ _ _ _ N6 (by decide) (by decide)
  have y7 := below_at hB7 hl1 y6
  have B7 := B6.trans (hB7.mono B1.size)
  have hs7 := hB7.size
  clear z0 z1 z2 z3 zf y6 hB7 hK7 hT6 N6
  obtain ⟨z0, z1, z2, z3, zf⟩ := four y7
  have n7 : w5.heap.size < w7.heap.size := lt_of_at N7
  have yl7 : w.heap.size + 1 < w7.heap.size := lt_of_at y7
  go_wp2_with fail
  refine (register_any w1.heap.size w1.heap.size _ sA k a b c d (nw + 1) w7 hT7 sA_le).mono ?_
  rw [R4.out]
  rintro e w8 ⟨rfl, hT8, hB8, hK8⟩
  have N8 := hK8 _ _ _ _ N7 (by decide) (by decide)
  have B8 := B7.trans (hB8.mono B1.size)
  have hs8 := hB8.size
  have n8 : w5.heap.size < w8.heap.size := lt_of_at N8
  clear z0 z1 z2 z3 zf hB8 hK8 hT7 N7 y7
  go_wp2_with fail
  refine (get_b w1.heap.size w1.heap.size _ sA w8 hT8 sA_le).mono ?_
  rw [getR_one _ rfl]
  rintro e w9 ⟨rfl, hb9⟩
  have N := below_at hb9 n8 N8
  have B9 := B8.trans (hb9.mono B8.size)
  have n9 : w5.heap.size < w9.heap.size := lt_of_at N
  clear hb9 hT8 N8
  simp only [ndV, cellsN]
  have N0 : w9.cell? ⟨w5.heap.size, 0, none⟩ = some (.string sA) := (blk_cell N 0).trans rfl
  have N1 : w9.cell? ⟨w5.heap.size, 1, none⟩ = some (.int .i64 k) := (blk_cell N 1).trans rfl
  have N2 : w9.cell? ⟨w5.heap.size, 2, none⟩ = some (.int .i64 2) := (blk_cell N 2).trans rfl
  have N3 : w9.cell? ⟨w5.heap.size, 3, none⟩ = some (.int .i64 0) := (blk_cell N 3).trans rfl
  have N4 : w9.cell? ⟨w5.heap.size, 4, none⟩ = some (.int .i64 0) := (blk_cell N 4).trans rfl
  have N5 : w9.cell? ⟨w5.heap.size, 5, none⟩ = some (.int .i64 0) := (blk_cell N 5).trans rfl
  have N6 : w9.cell? ⟨w5.heap.size, 6, none⟩ = some (.int .i64 nw) := (blk_cell N 6).trans rfl
  have N7 : w9.cell? ⟨w5.heap.size, 7, none⟩ = some (.bool true) := (blk_cell N 7).trans rfl
  have Nf := blk_free N
  have E := HE.out
  clear R3 R4 RB
  rcases hq' with rfl | rfl
  · go_wp2
    go_ret
    exact ⟨rfl, (by repeat (first | with_reducible assumption | with_reducible exact Below.refl _ _ | with_reducible refine Below.drew ?_ | with_reducible refine below_drewN ?_ _ | with_reducible refine below_alloc ?_ _ | with_reducible refine Below.alloc ?_ (by first | omega | (simp; done) | (simp; omega)) _ | with_reducible refine Below.setCell ?_ (by first | omega | (simp; done) | (simp; omega)) _ | with_reducible refine below_setRow ?_ (by first | omega | (simp; done) | (simp; omega)) _))⟩
  · go_wp2
    go_ret
    exact ⟨rfl, (by repeat (first | with_reducible assumption | with_reducible exact Below.refl _ _ | with_reducible refine Below.drew ?_ | with_reducible refine below_drewN ?_ _ | with_reducible refine below_alloc ?_ _ | with_reducible refine Below.alloc ?_ (by first | omega | (simp; done) | (simp; omega)) _ | with_reducible refine Below.setCell ?_ (by first | omega | (simp; done) | (simp; omega)) _ | with_reducible refine below_setRow ?_ (by first | omega | (simp; done) | (simp; omega)) _))⟩
end Go.Proofs.Ytkplhobiciddoaa
