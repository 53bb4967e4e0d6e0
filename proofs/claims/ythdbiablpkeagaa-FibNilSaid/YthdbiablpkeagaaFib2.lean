/- awake of chapter 8, and the walk of FibNil. -/
import Derived.Test.YthdbiablpkeagaaFib1
namespace Go.Proofs.Ythdbiablpkeagaa
open Go.RowKit
set_option maxRecDepth 20000 in
set_option maxHeartbeats 4000000 in
theorem min1 (H g cap : Nat) (a b c : Int) (w : World) (hH : w.heap[H]? = some (.cells #[.slice (some ⟨g, 0, none⟩) 1 cap, .int .i64 1, .int .i64 1] 66 (0, 0))) (hgl : g < w.heap.size)
    (k0 : w.cell? ⟨g, 0, none⟩ = some (.int .u64 a)) (k1 : w.cell? ⟨g, 1, none⟩ = some (.int .u64 b)) (k2 : w.cell? ⟨g, 2, none⟩ = some (.int .i64 c)) :
    Calls Try.prog 18 #[.pointer (some ⟨H, 0, none⟩)] w fun e w' => e = .returned (.tuple #[.int .i64 0, .agg #[.int .u64 a, .int .u64 b, .int .i64 c], .int .i64 0]) ∧ Below w.heap.size w w' := by
  have hlH := lt_of_at hH
  have c0 : w.cell? ⟨H, 0, none⟩ = some (.slice (some ⟨g, 0, none⟩) 1 cap) := (blk_cell hH 0).trans rfl
  have c1 : w.cell? ⟨H, 1, none⟩ = some (.int .i64 1) := (blk_cell hH 1).trans rfl
  have c2 : w.cell? ⟨H, 2, none⟩ = some (.int .i64 1) := (blk_cell hH 2).trans rfl
  clear hH
  go_enter Try.func18, Try.ntmps18
  go_wp2
  go_region_held3 (fun w' => w'.cell? ⟨H, 0, none⟩ = some (.slice (some ⟨g, 0, none⟩) 1 cap) ∧ w'.cell? ⟨g, 0, none⟩ = some (.int .u64 a) ∧ w'.cell? ⟨g, 1, none⟩ = some (.int .u64 b) ∧ w'.cell? ⟨g, 2, none⟩ = some (.int .i64 c)) (go_keep) (fail)
  all_goals
    go_wp2
    refine ret_row3 rfl w.heap.size #[.int .u64 a, .int .u64 b, .int .i64 c] 33 _ rfl Try.underlying33 rfl infoK rfl (by apply Exists.intro; refine ⟨?_, ?_⟩; (focus ((repeat (first | (with_reducible assumption) | (with_reducible exact alloc_at _ _) | ((with_reducible apply alloc_at'); (simp; done)) | (with_reducible apply alloc_at_lt) | (with_reducible apply heap_drew_at) | (with_reducible apply heap_drewN_at) | (with_reducible apply heap_setCell_same) | ((with_reducible apply heap_set_ne); (first | omega | (dsimp only; omega) | (simp; done) | (simp; omega))) | (with_reducible apply setRow_at) | ((with_reducible apply setRow_ne); (first | omega | (dsimp only; omega) | (simp; done) | (simp; omega))))))); simp) ⟨rfl, (by repeat (first | with_reducible assumption | with_reducible exact Below.refl _ _ | with_reducible refine Below.drew ?_ | with_reducible refine below_drewN ?_ _ | with_reducible refine below_alloc ?_ _ | with_reducible refine Below.alloc ?_ (by first | omega | (simp; done) | (simp; omega)) _ | with_reducible refine Below.setCell ?_ (by first | omega | (simp; done) | (simp; omega)) _ | with_reducible refine below_setRow ?_ (by first | omega | (simp; done) | (simp; omega)) _))⟩
set_option maxRecDepth 20000 in
set_option maxHeartbeats 4000000 in
theorem awake_any (w : World) : Calls Try.prog 8 #[] w fun e w' => e = .returned (.bool true) ∧ Below w.heap.size w w' := by
  go_enter Try.func8, Try.ntmps8
  go_wp2_with fail
  refine (newh w).mono ?_
  rintro e w1 ⟨rfl, hb1, hH1⟩
  have hl1 := lt_of_at hH1
  have hs1 := hb1.size
  go_wp2_with fail
  refine (ins0_ok w.heap.size 0 3 0 _ (by omega) (by omega) (at_of (by apply Exists.intro; refine ⟨?_, ?_⟩; (focus ((repeat (first | (with_reducible assumption) | (with_reducible exact alloc_at _ _) | ((with_reducible apply alloc_at'); (simp; done)) | (with_reducible apply alloc_at_lt) | (with_reducible apply heap_drew_at) | (with_reducible apply heap_drewN_at) | (with_reducible apply heap_setCell_same) | ((with_reducible apply heap_set_ne); (first | omega | (dsimp only; omega) | (simp; done) | (simp; omega))) | (with_reducible apply setRow_at) | ((with_reducible apply setRow_ne); (first | omega | (dsimp only; omega) | (simp; done) | (simp; omega))))))); simp))).mono ?_
  rintro e w2 ⟨rfl, hG, g, cap, hH2, hg, hgl, hcap, k0, k1, k2⟩
  have B2 : Below w.heap.size w w2 := Below.trans (by repeat (first | with_reducible assumption | with_reducible exact Below.refl _ _ | with_reducible refine Below.drew ?_ | with_reducible refine below_drewN ?_ _ | with_reducible refine below_alloc ?_ _ | with_reducible refine Below.alloc ?_ (by first | omega | (simp; done) | (simp; omega)) _ | with_reducible refine Below.setCell ?_ (by first | omega | (simp; done) | (simp; omega)) _ | with_reducible refine below_setRow ?_ (by first | omega | (simp; done) | (simp; omega)) _)) ⟨hG.os, hG.tape, hG.output, hG.size, fun k hk => hG.block k (by simp; omega) (by intro e; injection e; omega)⟩
  have hl2 := lt_of_at hH2
  go_wp2_with fail
  refine (min1 w.heap.size g cap 0 3 0 w2 hH2 hgl k0 k1 k2).mono ?_
  rintro e w3 ⟨rfl, hb3⟩
  have hs3 := hb3.size
  have hH3 := below_at hb3 hl2 hH2
  have m2 : w3.cell? ⟨w.heap.size, 2, none⟩ = some (.int .i64 1) := (blk_cell hH3 2).trans rfl
  have hl3 := lt_of_at hH3
  have B3 : Below w.heap.size w w3 := B2.trans (hb3.mono B2.size)
  go_wp2
  go_ret
  exact ⟨by first | rfl | simp, (by repeat (first | with_reducible assumption | with_reducible exact Below.refl _ _ | with_reducible refine Below.drew ?_ | with_reducible refine below_drewN ?_ _ | with_reducible refine below_alloc ?_ _ | with_reducible refine Below.alloc ?_ (by first | omega | (simp; done) | (simp; omega)) _ | with_reducible refine Below.setCell ?_ (by first | omega | (simp; done) | (simp; omega)) _ | with_reducible refine below_setRow ?_ (by first | omega | (simp; done) | (simp; omega)) _))⟩
set_option maxRecDepth 20000 in
set_option maxHeartbeats 8000000 in
theorem fibNil_form (a b c n : Int) (w : World) :
    Calls Try.prog 7 #[.agg #[.int .u64 a, .int .u64 0, .int .i64 c], .int .i64 n] w fun e w' => e = .returned (.bool true) ∧ Below w.heap.size w w' := by
  go_enter Try.func7, Try.ntmps7
  go_wp2_with fail
  refine (awake_any _).mono ?_
  rintro e w1 ⟨rfl, hb1⟩
  have hs1 := hb1.size
  try simp only [World.size_alloc, World.size_setCell] at hs1
  have V_1 : w1.heap[w.heap.size]? = some (.cells #[.int .u64 a, .int .u64 0, .int .i64 c] 33 (0, 0)) := below_at hb1 (by first | omega | (simp; done) | (simp; omega)) (by (repeat (first | (with_reducible assumption) | (with_reducible exact alloc_at _ _) | ((with_reducible apply alloc_at'); (simp; done)) | (with_reducible apply alloc_at_lt) | (with_reducible apply heap_drew_at) | (with_reducible apply heap_drewN_at) | (with_reducible apply heap_setCell_same) | ((with_reducible apply heap_set_ne); (first | omega | (dsimp only; omega) | (simp; done) | (simp; omega))) | (with_reducible apply setRow_at) | ((with_reducible apply setRow_ne); (first | omega | (dsimp only; omega) | (simp; done) | (simp; omega))))))
  have B1 : Below w.heap.size w w1 := Below.trans (by repeat (first | with_reducible assumption | with_reducible exact Below.refl _ _ | with_reducible refine Below.drew ?_ | with_reducible refine below_drewN ?_ _ | with_reducible refine below_alloc ?_ _ | with_reducible refine Below.alloc ?_ (by first | omega | (simp; done) | (simp; omega)) _ | with_reducible refine Below.setCell ?_ (by first | omega | (simp; done) | (simp; omega)) _ | with_reducible refine below_setRow ?_ (by first | omega | (simp; done) | (simp; omega)) _)) (hb1.mono (by first | omega | (simp; done) | (simp; omega)))
  clear hb1
  have Vc0 : w1.cell? ⟨w.heap.size, 0, none⟩ = some (.int .u64 a) := (blk_cell V_1 0).trans rfl
  have Vc1 : w1.cell? ⟨w.heap.size, 1, none⟩ = some (.int .u64 0) := (blk_cell V_1 1).trans rfl
  have Vc2 : w1.cell? ⟨w.heap.size, 2, none⟩ = some (.int .i64 c) := (blk_cell V_1 2).trans rfl
  have Vcf := blk_free V_1
  have Vl1 : w.heap.size < w1.heap.size := by omega
  go_wp2_with fail
  refine (insz a 0 c _).mono ?_
  rintro e w2 ⟨rfl, hb2⟩
  have hs2 := hb2.size
  try simp only [World.size_alloc, World.size_setCell] at hs2
  have V_2 : w2.heap[w.heap.size]? = some (.cells #[.int .u64 a, .int .u64 0, .int .i64 c] 33 (0, 0)) := below_at hb2 (by first | omega | (simp; done) | (simp; omega)) (by (repeat (first | (with_reducible assumption) | (with_reducible exact alloc_at _ _) | ((with_reducible apply alloc_at'); (simp; done)) | (with_reducible apply alloc_at_lt) | (with_reducible apply heap_drew_at) | (with_reducible apply heap_drewN_at) | (with_reducible apply heap_setCell_same) | ((with_reducible apply heap_set_ne); (first | omega | (dsimp only; omega) | (simp; done) | (simp; omega))) | (with_reducible apply setRow_at) | ((with_reducible apply setRow_ne); (first | omega | (dsimp only; omega) | (simp; done) | (simp; omega))))))
  have B2 : Below w.heap.size w w2 := Below.trans (by repeat (first | with_reducible assumption | with_reducible exact Below.refl _ _ | with_reducible refine Below.drew ?_ | with_reducible refine below_drewN ?_ _ | with_reducible refine below_alloc ?_ _ | with_reducible refine Below.alloc ?_ (by first | omega | (simp; done) | (simp; omega)) _ | with_reducible refine Below.setCell ?_ (by first | omega | (simp; done) | (simp; omega)) _ | with_reducible refine below_setRow ?_ (by first | omega | (simp; done) | (simp; omega)) _)) (hb2.mono (by first | omega | (simp; done) | (simp; omega)))
  clear hb2 V_1
  clear Vc0 Vc1 Vc2 Vcf
  have Vc0 : w2.cell? ⟨w.heap.size, 0, none⟩ = some (.int .u64 a) := (blk_cell V_2 0).trans rfl
  have Vc1 : w2.cell? ⟨w.heap.size, 1, none⟩ = some (.int .u64 0) := (blk_cell V_2 1).trans rfl
  have Vc2 : w2.cell? ⟨w.heap.size, 2, none⟩ = some (.int .i64 c) := (blk_cell V_2 2).trans rfl
  have Vcf := blk_free V_2
  have Vl2 : w.heap.size < w2.heap.size := by omega
  go_wp2_with fail
  refine (newh _).mono ?_
  rintro e w3 ⟨rfl, hb3, -⟩
  have hs3 := hb3.size
  try simp only [World.size_alloc, World.size_setCell] at hs3
  have V_3 : w3.heap[w.heap.size]? = some (.cells #[.int .u64 a, .int .u64 0, .int .i64 c] 33 (0, 0)) := below_at hb3 (by first | omega | (simp; done) | (simp; omega)) (by (repeat (first | (with_reducible assumption) | (with_reducible exact alloc_at _ _) | ((with_reducible apply alloc_at'); (simp; done)) | (with_reducible apply alloc_at_lt) | (with_reducible apply heap_drew_at) | (with_reducible apply heap_drewN_at) | (with_reducible apply heap_setCell_same) | ((with_reducible apply heap_set_ne); (first | omega | (dsimp only; omega) | (simp; done) | (simp; omega))) | (with_reducible apply setRow_at) | ((with_reducible apply setRow_ne); (first | omega | (dsimp only; omega) | (simp; done) | (simp; omega))))))
  have B3 : Below w.heap.size w w3 := Below.trans (by repeat (first | with_reducible assumption | with_reducible exact Below.refl _ _ | with_reducible refine Below.drew ?_ | with_reducible refine below_drewN ?_ _ | with_reducible refine below_alloc ?_ _ | with_reducible refine Below.alloc ?_ (by first | omega | (simp; done) | (simp; omega)) _ | with_reducible refine Below.setCell ?_ (by first | omega | (simp; done) | (simp; omega)) _ | with_reducible refine below_setRow ?_ (by first | omega | (simp; done) | (simp; omega)) _)) (hb3.mono (by first | omega | (simp; done) | (simp; omega)))
  clear hb3 V_2
  clear Vc0 Vc1 Vc2 Vcf
  have Vc0 : w3.cell? ⟨w.heap.size, 0, none⟩ = some (.int .u64 a) := (blk_cell V_3 0).trans rfl
  have Vc1 : w3.cell? ⟨w.heap.size, 1, none⟩ = some (.int .u64 0) := (blk_cell V_3 1).trans rfl
  have Vc2 : w3.cell? ⟨w.heap.size, 2, none⟩ = some (.int .i64 c) := (blk_cell V_3 2).trans rfl
  have Vcf := blk_free V_3
  have Vl3 : w.heap.size < w3.heap.size := by omega
  go_wp2_with fail
  refine (meldz _ _).mono ?_
  rintro e w4 ⟨rfl, hb4⟩
  have hs4 := hb4.size
  try simp only [World.size_alloc, World.size_setCell] at hs4
  have V_4 : w4.heap[w.heap.size]? = some (.cells #[.int .u64 a, .int .u64 0, .int .i64 c] 33 (0, 0)) := below_at hb4 (by first | omega | (simp; done) | (simp; omega)) (by (repeat (first | (with_reducible assumption) | (with_reducible exact alloc_at _ _) | ((with_reducible apply alloc_at'); (simp; done)) | (with_reducible apply alloc_at_lt) | (with_reducible apply heap_drew_at) | (with_reducible apply heap_drewN_at) | (with_reducible apply heap_setCell_same) | ((with_reducible apply heap_set_ne); (first | omega | (dsimp only; omega) | (simp; done) | (simp; omega))) | (with_reducible apply setRow_at) | ((with_reducible apply setRow_ne); (first | omega | (dsimp only; omega) | (simp; done) | (simp; omega))))))
  have B4 : Below w.heap.size w w4 := Below.trans (by repeat (first | with_reducible assumption | with_reducible exact Below.refl _ _ | with_reducible refine Below.drew ?_ | with_reducible refine below_drewN ?_ _ | with_reducible refine below_alloc ?_ _ | with_reducible refine Below.alloc ?_ (by first | omega | (simp; done) | (simp; omega)) _ | with_reducible refine Below.setCell ?_ (by first | omega | (simp; done) | (simp; omega)) _ | with_reducible refine below_setRow ?_ (by first | omega | (simp; done) | (simp; omega)) _)) (hb4.mono (by first | omega | (simp; done) | (simp; omega)))
  clear hb4 V_3
  clear Vc0 Vc1 Vc2 Vcf
  have Vc0 : w4.cell? ⟨w.heap.size, 0, none⟩ = some (.int .u64 a) := (blk_cell V_4 0).trans rfl
  have Vc1 : w4.cell? ⟨w.heap.size, 1, none⟩ = some (.int .u64 0) := (blk_cell V_4 1).trans rfl
  have Vc2 : w4.cell? ⟨w.heap.size, 2, none⟩ = some (.int .i64 c) := (blk_cell V_4 2).trans rfl
  have Vcf := blk_free V_4
  have Vl4 : w.heap.size < w4.heap.size := by omega
  go_wp2_with fail
  refine (getz n _).mono ?_
  rintro e w5 ⟨rfl, hb5⟩
  have hs5 := hb5.size
  try simp only [World.size_alloc, World.size_setCell] at hs5
  have V_5 : w5.heap[w.heap.size]? = some (.cells #[.int .u64 a, .int .u64 0, .int .i64 c] 33 (0, 0)) := below_at hb5 (by first | omega | (simp; done) | (simp; omega)) (by (repeat (first | (with_reducible assumption) | (with_reducible exact alloc_at _ _) | ((with_reducible apply alloc_at'); (simp; done)) | (with_reducible apply alloc_at_lt) | (with_reducible apply heap_drew_at) | (with_reducible apply heap_drewN_at) | (with_reducible apply heap_setCell_same) | ((with_reducible apply heap_set_ne); (first | omega | (dsimp only; omega) | (simp; done) | (simp; omega))) | (with_reducible apply setRow_at) | ((with_reducible apply setRow_ne); (first | omega | (dsimp only; omega) | (simp; done) | (simp; omega))))))
  have B5 : Below w.heap.size w w5 := Below.trans (by repeat (first | with_reducible assumption | with_reducible exact Below.refl _ _ | with_reducible refine Below.drew ?_ | with_reducible refine below_drewN ?_ _ | with_reducible refine below_alloc ?_ _ | with_reducible refine Below.alloc ?_ (by first | omega | (simp; done) | (simp; omega)) _ | with_reducible refine Below.setCell ?_ (by first | omega | (simp; done) | (simp; omega)) _ | with_reducible refine below_setRow ?_ (by first | omega | (simp; done) | (simp; omega)) _)) (hb5.mono (by first | omega | (simp; done) | (simp; omega)))
  clear hb5 V_4
  clear Vc0 Vc1 Vc2 Vcf
  have Vc0 : w5.cell? ⟨w.heap.size, 0, none⟩ = some (.int .u64 a) := (blk_cell V_5 0).trans rfl
  have Vc1 : w5.cell? ⟨w.heap.size, 1, none⟩ = some (.int .u64 0) := (blk_cell V_5 1).trans rfl
  have Vc2 : w5.cell? ⟨w.heap.size, 2, none⟩ = some (.int .i64 c) := (blk_cell V_5 2).trans rfl
  have Vcf := blk_free V_5
  have Vl5 : w.heap.size < w5.heap.size := by omega
  go_wp2_with fail
  refine (minz _).mono ?_
  rintro e w6 ⟨rfl, hb6⟩
  have hs6 := hb6.size
  try simp only [World.size_alloc, World.size_setCell] at hs6
  have V_6 : w6.heap[w.heap.size]? = some (.cells #[.int .u64 a, .int .u64 0, .int .i64 c] 33 (0, 0)) := below_at hb6 (by first | omega | (simp; done) | (simp; omega)) (by (repeat (first | (with_reducible assumption) | (with_reducible exact alloc_at _ _) | ((with_reducible apply alloc_at'); (simp; done)) | (with_reducible apply alloc_at_lt) | (with_reducible apply heap_drew_at) | (with_reducible apply heap_drewN_at) | (with_reducible apply heap_setCell_same) | ((with_reducible apply heap_set_ne); (first | omega | (dsimp only; omega) | (simp; done) | (simp; omega))) | (with_reducible apply setRow_at) | ((with_reducible apply setRow_ne); (first | omega | (dsimp only; omega) | (simp; done) | (simp; omega))))))
  have B6 : Below w.heap.size w w6 := Below.trans (by repeat (first | with_reducible assumption | with_reducible exact Below.refl _ _ | with_reducible refine Below.drew ?_ | with_reducible refine below_drewN ?_ _ | with_reducible refine below_alloc ?_ _ | with_reducible refine Below.alloc ?_ (by first | omega | (simp; done) | (simp; omega)) _ | with_reducible refine Below.setCell ?_ (by first | omega | (simp; done) | (simp; omega)) _ | with_reducible refine below_setRow ?_ (by first | omega | (simp; done) | (simp; omega)) _)) (hb6.mono (by first | omega | (simp; done) | (simp; omega)))
  clear hb6 V_5
  clear Vc0 Vc1 Vc2 Vcf
  have Vc0 : w6.cell? ⟨w.heap.size, 0, none⟩ = some (.int .u64 a) := (blk_cell V_6 0).trans rfl
  have Vc1 : w6.cell? ⟨w.heap.size, 1, none⟩ = some (.int .u64 0) := (blk_cell V_6 1).trans rfl
  have Vc2 : w6.cell? ⟨w.heap.size, 2, none⟩ = some (.int .i64 c) := (blk_cell V_6 2).trans rfl
  have Vcf := blk_free V_6
  have Vl6 : w.heap.size < w6.heap.size := by omega
  go_wp2_with fail
  refine (popz _).mono ?_
  rintro e w7 ⟨rfl, hb7⟩
  have hs7 := hb7.size
  try simp only [World.size_alloc, World.size_setCell] at hs7
  have V_7 : w7.heap[w.heap.size]? = some (.cells #[.int .u64 a, .int .u64 0, .int .i64 c] 33 (0, 0)) := below_at hb7 (by first | omega | (simp; done) | (simp; omega)) (by (repeat (first | (with_reducible assumption) | (with_reducible exact alloc_at _ _) | ((with_reducible apply alloc_at'); (simp; done)) | (with_reducible apply alloc_at_lt) | (with_reducible apply heap_drew_at) | (with_reducible apply heap_drewN_at) | (with_reducible apply heap_setCell_same) | ((with_reducible apply heap_set_ne); (first | omega | (dsimp only; omega) | (simp; done) | (simp; omega))) | (with_reducible apply setRow_at) | ((with_reducible apply setRow_ne); (first | omega | (dsimp only; omega) | (simp; done) | (simp; omega))))))
  have B7 : Below w.heap.size w w7 := Below.trans (by repeat (first | with_reducible assumption | with_reducible exact Below.refl _ _ | with_reducible refine Below.drew ?_ | with_reducible refine below_drewN ?_ _ | with_reducible refine below_alloc ?_ _ | with_reducible refine Below.alloc ?_ (by first | omega | (simp; done) | (simp; omega)) _ | with_reducible refine Below.setCell ?_ (by first | omega | (simp; done) | (simp; omega)) _ | with_reducible refine below_setRow ?_ (by first | omega | (simp; done) | (simp; omega)) _)) (hb7.mono (by first | omega | (simp; done) | (simp; omega)))
  clear hb7 V_6
  clear Vc0 Vc1 Vc2 Vcf
  have Vc0 : w7.cell? ⟨w.heap.size, 0, none⟩ = some (.int .u64 a) := (blk_cell V_7 0).trans rfl
  have Vc1 : w7.cell? ⟨w.heap.size, 1, none⟩ = some (.int .u64 0) := (blk_cell V_7 1).trans rfl
  have Vc2 : w7.cell? ⟨w.heap.size, 2, none⟩ = some (.int .i64 c) := (blk_cell V_7 2).trans rfl
  have Vcf := blk_free V_7
  have Vl7 : w.heap.size < w7.heap.size := by omega
  go_wp2_with fail
  refine (newh _).mono ?_
  rintro e w8 ⟨rfl, hb8, -⟩
  have hs8 := hb8.size
  try simp only [World.size_alloc, World.size_setCell] at hs8
  have V_8 : w8.heap[w.heap.size]? = some (.cells #[.int .u64 a, .int .u64 0, .int .i64 c] 33 (0, 0)) := below_at hb8 (by first | omega | (simp; done) | (simp; omega)) (by (repeat (first | (with_reducible assumption) | (with_reducible exact alloc_at _ _) | ((with_reducible apply alloc_at'); (simp; done)) | (with_reducible apply alloc_at_lt) | (with_reducible apply heap_drew_at) | (with_reducible apply heap_drewN_at) | (with_reducible apply heap_setCell_same) | ((with_reducible apply heap_set_ne); (first | omega | (dsimp only; omega) | (simp; done) | (simp; omega))) | (with_reducible apply setRow_at) | ((with_reducible apply setRow_ne); (first | omega | (dsimp only; omega) | (simp; done) | (simp; omega))))))
  have B8 : Below w.heap.size w w8 := Below.trans (by repeat (first | with_reducible assumption | with_reducible exact Below.refl _ _ | with_reducible refine Below.drew ?_ | with_reducible refine below_drewN ?_ _ | with_reducible refine below_alloc ?_ _ | with_reducible refine Below.alloc ?_ (by first | omega | (simp; done) | (simp; omega)) _ | with_reducible refine Below.setCell ?_ (by first | omega | (simp; done) | (simp; omega)) _ | with_reducible refine below_setRow ?_ (by first | omega | (simp; done) | (simp; omega)) _)) (hb8.mono (by first | omega | (simp; done) | (simp; omega)))
  clear hb8 V_7
  clear Vc0 Vc1 Vc2 Vcf
  have Vc0 : w8.cell? ⟨w.heap.size, 0, none⟩ = some (.int .u64 a) := (blk_cell V_8 0).trans rfl
  have Vc1 : w8.cell? ⟨w.heap.size, 1, none⟩ = some (.int .u64 0) := (blk_cell V_8 1).trans rfl
  have Vc2 : w8.cell? ⟨w.heap.size, 2, none⟩ = some (.int .i64 c) := (blk_cell V_8 2).trans rfl
  have Vcf := blk_free V_8
  have Vl8 : w.heap.size < w8.heap.size := by omega
  go_wp2_with fail
  refine (meldz2 _ _).mono ?_
  rintro e w9 ⟨rfl, hb9⟩
  have hs9 := hb9.size
  try simp only [World.size_alloc, World.size_setCell] at hs9
  have V_9 : w9.heap[w.heap.size]? = some (.cells #[.int .u64 a, .int .u64 0, .int .i64 c] 33 (0, 0)) := below_at hb9 (by first | omega | (simp; done) | (simp; omega)) (by (repeat (first | (with_reducible assumption) | (with_reducible exact alloc_at _ _) | ((with_reducible apply alloc_at'); (simp; done)) | (with_reducible apply alloc_at_lt) | (with_reducible apply heap_drew_at) | (with_reducible apply heap_drewN_at) | (with_reducible apply heap_setCell_same) | ((with_reducible apply heap_set_ne); (first | omega | (dsimp only; omega) | (simp; done) | (simp; omega))) | (with_reducible apply setRow_at) | ((with_reducible apply setRow_ne); (first | omega | (dsimp only; omega) | (simp; done) | (simp; omega))))))
  have B9 : Below w.heap.size w w9 := Below.trans (by repeat (first | with_reducible assumption | with_reducible exact Below.refl _ _ | with_reducible refine Below.drew ?_ | with_reducible refine below_drewN ?_ _ | with_reducible refine below_alloc ?_ _ | with_reducible refine Below.alloc ?_ (by first | omega | (simp; done) | (simp; omega)) _ | with_reducible refine Below.setCell ?_ (by first | omega | (simp; done) | (simp; omega)) _ | with_reducible refine below_setRow ?_ (by first | omega | (simp; done) | (simp; omega)) _)) (hb9.mono (by first | omega | (simp; done) | (simp; omega)))
  clear hb9 V_8
  clear Vc0 Vc1 Vc2 Vcf
  have Vc0 : w9.cell? ⟨w.heap.size, 0, none⟩ = some (.int .u64 a) := (blk_cell V_9 0).trans rfl
  have Vc1 : w9.cell? ⟨w.heap.size, 1, none⟩ = some (.int .u64 0) := (blk_cell V_9 1).trans rfl
  have Vc2 : w9.cell? ⟨w.heap.size, 2, none⟩ = some (.int .i64 c) := (blk_cell V_9 2).trans rfl
  have Vcf := blk_free V_9
  have Vl9 : w.heap.size < w9.heap.size := by omega
  go_wp2_with fail
  refine (decz n a 0 c _).mono ?_
  rintro e w10 ⟨rfl, hb10⟩
  have hs10 := hb10.size
  try simp only [World.size_alloc, World.size_setCell] at hs10
  have V_10 : w10.heap[w.heap.size]? = some (.cells #[.int .u64 a, .int .u64 0, .int .i64 c] 33 (0, 0)) := below_at hb10 (by first | omega | (simp; done) | (simp; omega)) (by (repeat (first | (with_reducible assumption) | (with_reducible exact alloc_at _ _) | ((with_reducible apply alloc_at'); (simp; done)) | (with_reducible apply alloc_at_lt) | (with_reducible apply heap_drew_at) | (with_reducible apply heap_drewN_at) | (with_reducible apply heap_setCell_same) | ((with_reducible apply heap_set_ne); (first | omega | (dsimp only; omega) | (simp; done) | (simp; omega))) | (with_reducible apply setRow_at) | ((with_reducible apply setRow_ne); (first | omega | (dsimp only; omega) | (simp; done) | (simp; omega))))))
  have B10 : Below w.heap.size w w10 := Below.trans (by repeat (first | with_reducible assumption | with_reducible exact Below.refl _ _ | with_reducible refine Below.drew ?_ | with_reducible refine below_drewN ?_ _ | with_reducible refine below_alloc ?_ _ | with_reducible refine Below.alloc ?_ (by first | omega | (simp; done) | (simp; omega)) _ | with_reducible refine Below.setCell ?_ (by first | omega | (simp; done) | (simp; omega)) _ | with_reducible refine below_setRow ?_ (by first | omega | (simp; done) | (simp; omega)) _)) (hb10.mono (by first | omega | (simp; done) | (simp; omega)))
  clear hb10 V_9
  clear Vc0 Vc1 Vc2 Vcf
  have Vc0 : w10.cell? ⟨w.heap.size, 0, none⟩ = some (.int .u64 a) := (blk_cell V_10 0).trans rfl
  have Vc1 : w10.cell? ⟨w.heap.size, 1, none⟩ = some (.int .u64 0) := (blk_cell V_10 1).trans rfl
  have Vc2 : w10.cell? ⟨w.heap.size, 2, none⟩ = some (.int .i64 c) := (blk_cell V_10 2).trans rfl
  have Vcf := blk_free V_10
  have Vl10 : w.heap.size < w10.heap.size := by omega
  go_wp2_with fail
  refine (delz n _).mono ?_
  rintro e w11 ⟨rfl, hb11⟩
  have hs11 := hb11.size
  try simp only [World.size_alloc, World.size_setCell] at hs11
  have V_11 : w11.heap[w.heap.size]? = some (.cells #[.int .u64 a, .int .u64 0, .int .i64 c] 33 (0, 0)) := below_at hb11 (by first | omega | (simp; done) | (simp; omega)) (by (repeat (first | (with_reducible assumption) | (with_reducible exact alloc_at _ _) | ((with_reducible apply alloc_at'); (simp; done)) | (with_reducible apply alloc_at_lt) | (with_reducible apply heap_drew_at) | (with_reducible apply heap_drewN_at) | (with_reducible apply heap_setCell_same) | ((with_reducible apply heap_set_ne); (first | omega | (dsimp only; omega) | (simp; done) | (simp; omega))) | (with_reducible apply setRow_at) | ((with_reducible apply setRow_ne); (first | omega | (dsimp only; omega) | (simp; done) | (simp; omega))))))
  have B11 : Below w.heap.size w w11 := Below.trans (by repeat (first | with_reducible assumption | with_reducible exact Below.refl _ _ | with_reducible refine Below.drew ?_ | with_reducible refine below_drewN ?_ _ | with_reducible refine below_alloc ?_ _ | with_reducible refine Below.alloc ?_ (by first | omega | (simp; done) | (simp; omega)) _ | with_reducible refine Below.setCell ?_ (by first | omega | (simp; done) | (simp; omega)) _ | with_reducible refine below_setRow ?_ (by first | omega | (simp; done) | (simp; omega)) _)) (hb11.mono (by first | omega | (simp; done) | (simp; omega)))
  clear hb11 V_10
  clear Vc0 Vc1 Vc2 Vcf
  have Vc0 : w11.cell? ⟨w.heap.size, 0, none⟩ = some (.int .u64 a) := (blk_cell V_11 0).trans rfl
  have Vc1 : w11.cell? ⟨w.heap.size, 1, none⟩ = some (.int .u64 0) := (blk_cell V_11 1).trans rfl
  have Vc2 : w11.cell? ⟨w.heap.size, 2, none⟩ = some (.int .i64 c) := (blk_cell V_11 2).trans rfl
  have Vcf := blk_free V_11
  have Vl11 : w.heap.size < w11.heap.size := by omega
  go_wp2_with fail
  refine (lenz _).mono ?_
  rintro e w12 ⟨rfl, hb12⟩
  have hs12 := hb12.size
  try simp only [World.size_alloc, World.size_setCell] at hs12
  have V_12 : w12.heap[w.heap.size]? = some (.cells #[.int .u64 a, .int .u64 0, .int .i64 c] 33 (0, 0)) := below_at hb12 (by first | omega | (simp; done) | (simp; omega)) (by (repeat (first | (with_reducible assumption) | (with_reducible exact alloc_at _ _) | ((with_reducible apply alloc_at'); (simp; done)) | (with_reducible apply alloc_at_lt) | (with_reducible apply heap_drew_at) | (with_reducible apply heap_drewN_at) | (with_reducible apply heap_setCell_same) | ((with_reducible apply heap_set_ne); (first | omega | (dsimp only; omega) | (simp; done) | (simp; omega))) | (with_reducible apply setRow_at) | ((with_reducible apply setRow_ne); (first | omega | (dsimp only; omega) | (simp; done) | (simp; omega))))))
  have B12 : Below w.heap.size w w12 := Below.trans (by repeat (first | with_reducible assumption | with_reducible exact Below.refl _ _ | with_reducible refine Below.drew ?_ | with_reducible refine below_drewN ?_ _ | with_reducible refine below_alloc ?_ _ | with_reducible refine Below.alloc ?_ (by first | omega | (simp; done) | (simp; omega)) _ | with_reducible refine Below.setCell ?_ (by first | omega | (simp; done) | (simp; omega)) _ | with_reducible refine below_setRow ?_ (by first | omega | (simp; done) | (simp; omega)) _)) (hb12.mono (by first | omega | (simp; done) | (simp; omega)))
  clear hb12 V_11
  clear Vc0 Vc1 Vc2 Vcf
  have Vc0 : w12.cell? ⟨w.heap.size, 0, none⟩ = some (.int .u64 a) := (blk_cell V_12 0).trans rfl
  have Vc1 : w12.cell? ⟨w.heap.size, 1, none⟩ = some (.int .u64 0) := (blk_cell V_12 1).trans rfl
  have Vc2 : w12.cell? ⟨w.heap.size, 2, none⟩ = some (.int .i64 c) := (blk_cell V_12 2).trans rfl
  have Vcf := blk_free V_12
  have Vl12 : w.heap.size < w12.heap.size := by omega
  go_wp2_with fail
  refine (ins0_form w12.heap.size a c _ (by exact (by (repeat (first | (with_reducible assumption) | (with_reducible exact alloc_at _ _) | ((with_reducible apply alloc_at'); (simp; done)) | (with_reducible apply alloc_at_lt) | (with_reducible apply heap_drew_at) | (with_reducible apply heap_drewN_at) | (with_reducible apply heap_setCell_same) | ((with_reducible apply heap_set_ne); (first | omega | (dsimp only; omega) | (simp; done) | (simp; omega))) | (with_reducible apply setRow_at) | ((with_reducible apply setRow_ne); (first | omega | (dsimp only; omega) | (simp; done) | (simp; omega)))))))).mono ?_
  rintro e w13 ⟨rfl, hb13⟩
  have hs13 := hb13.size
  try simp only [World.size_alloc, World.size_setCell] at hs13
  have V_13 : w13.heap[w.heap.size]? = some (.cells #[.int .u64 a, .int .u64 0, .int .i64 c] 33 (0, 0)) := below_at hb13 (by first | omega | (simp; done) | (simp; omega)) (by (repeat (first | (with_reducible assumption) | (with_reducible exact alloc_at _ _) | ((with_reducible apply alloc_at'); (simp; done)) | (with_reducible apply alloc_at_lt) | (with_reducible apply heap_drew_at) | (with_reducible apply heap_drewN_at) | (with_reducible apply heap_setCell_same) | ((with_reducible apply heap_set_ne); (first | omega | (dsimp only; omega) | (simp; done) | (simp; omega))) | (with_reducible apply setRow_at) | ((with_reducible apply setRow_ne); (first | omega | (dsimp only; omega) | (simp; done) | (simp; omega))))))
  have Z_13 : w13.heap[w12.heap.size]? = some (.cells #[.slice none 0 0, .int .i64 0, .int .i64 0] 66 (0, 0)) := below_at hb13 (by first | omega | (simp; done) | (simp; omega)) (by (repeat (first | (with_reducible assumption) | (with_reducible exact alloc_at _ _) | ((with_reducible apply alloc_at'); (simp; done)) | (with_reducible apply alloc_at_lt) | (with_reducible apply heap_drew_at) | (with_reducible apply heap_drewN_at) | (with_reducible apply heap_setCell_same) | ((with_reducible apply heap_set_ne); (first | omega | (dsimp only; omega) | (simp; done) | (simp; omega))) | (with_reducible apply setRow_at) | ((with_reducible apply setRow_ne); (first | omega | (dsimp only; omega) | (simp; done) | (simp; omega))))))
  have B13 : Below w.heap.size w w13 := Below.trans (by repeat (first | with_reducible assumption | with_reducible exact Below.refl _ _ | with_reducible refine Below.drew ?_ | with_reducible refine below_drewN ?_ _ | with_reducible refine below_alloc ?_ _ | with_reducible refine Below.alloc ?_ (by first | omega | (simp; done) | (simp; omega)) _ | with_reducible refine Below.setCell ?_ (by first | omega | (simp; done) | (simp; omega)) _ | with_reducible refine below_setRow ?_ (by first | omega | (simp; done) | (simp; omega)) _)) (hb13.mono (by first | omega | (simp; done) | (simp; omega)))
  clear hb13 V_12
  clear Vc0 Vc1 Vc2 Vcf
  have Vc0 : w13.cell? ⟨w.heap.size, 0, none⟩ = some (.int .u64 a) := (blk_cell V_13 0).trans rfl
  have Vc1 : w13.cell? ⟨w.heap.size, 1, none⟩ = some (.int .u64 0) := (blk_cell V_13 1).trans rfl
  have Vc2 : w13.cell? ⟨w.heap.size, 2, none⟩ = some (.int .i64 c) := (blk_cell V_13 2).trans rfl
  have Vcf := blk_free V_13
  have Zc0 : w13.cell? ⟨w12.heap.size, 0, none⟩ = some (.slice none 0 0) := (blk_cell Z_13 0).trans rfl
  have Zc1 : w13.cell? ⟨w12.heap.size, 1, none⟩ = some (.int .i64 0) := (blk_cell Z_13 1).trans rfl
  have Zc2 : w13.cell? ⟨w12.heap.size, 2, none⟩ = some (.int .i64 0) := (blk_cell Z_13 2).trans rfl
  have Zcf := blk_free Z_13
  have Vl13 : w.heap.size < w13.heap.size := by omega
  have Zl13 : w12.heap.size < w13.heap.size := by omega
  go_wp2
  go_ret
  exact ⟨by first | rfl | simp, (by repeat (first | with_reducible assumption | with_reducible exact Below.refl _ _ | with_reducible refine Below.drew ?_ | with_reducible refine below_drewN ?_ _ | with_reducible refine below_alloc ?_ _ | with_reducible refine Below.alloc ?_ (by first | omega | (simp; done) | (simp; omega)) _ | with_reducible refine Below.setCell ?_ (by first | omega | (simp; done) | (simp; omega)) _ | with_reducible refine below_setRow ?_ (by first | omega | (simp; done) | (simp; omega)) _))⟩
set_option maxRecDepth 20000 in
set_option maxHeartbeats 8000000 in
theorem fibNil_ok (a b c n : Int) (w : World) (hb0 : 0 < b) (hb1 : b ≤ 18446744073709551615) :
    Calls Try.prog 7 #[.agg #[.int .u64 a, .int .u64 b, .int .i64 c], .int .i64 n] w fun e w' => e = .returned (.bool true) ∧ Below w.heap.size w w' := by
  go_enter Try.func7, Try.ntmps7
  go_wp2_with fail
  refine (awake_any _).mono ?_
  rintro e w1 ⟨rfl, hb1⟩
  have hs1 := hb1.size
  try simp only [World.size_alloc, World.size_setCell] at hs1
  have V_1 : w1.heap[w.heap.size]? = some (.cells #[.int .u64 a, .int .u64 b, .int .i64 c] 33 (0, 0)) := below_at hb1 (by first | omega | (simp; done) | (simp; omega)) (by (repeat (first | (with_reducible assumption) | (with_reducible exact alloc_at _ _) | ((with_reducible apply alloc_at'); (simp; done)) | (with_reducible apply alloc_at_lt) | (with_reducible apply heap_drew_at) | (with_reducible apply heap_drewN_at) | (with_reducible apply heap_setCell_same) | ((with_reducible apply heap_set_ne); (first | omega | (dsimp only; omega) | (simp; done) | (simp; omega))) | (with_reducible apply setRow_at) | ((with_reducible apply setRow_ne); (first | omega | (dsimp only; omega) | (simp; done) | (simp; omega))))))
  have B1 : Below w.heap.size w w1 := Below.trans (by repeat (first | with_reducible assumption | with_reducible exact Below.refl _ _ | with_reducible refine Below.drew ?_ | with_reducible refine below_drewN ?_ _ | with_reducible refine below_alloc ?_ _ | with_reducible refine Below.alloc ?_ (by first | omega | (simp; done) | (simp; omega)) _ | with_reducible refine Below.setCell ?_ (by first | omega | (simp; done) | (simp; omega)) _ | with_reducible refine below_setRow ?_ (by first | omega | (simp; done) | (simp; omega)) _)) (hb1.mono (by first | omega | (simp; done) | (simp; omega)))
  clear hb1
  have Vc0 : w1.cell? ⟨w.heap.size, 0, none⟩ = some (.int .u64 a) := (blk_cell V_1 0).trans rfl
  have Vc1 : w1.cell? ⟨w.heap.size, 1, none⟩ = some (.int .u64 b) := (blk_cell V_1 1).trans rfl
  have Vc2 : w1.cell? ⟨w.heap.size, 2, none⟩ = some (.int .i64 c) := (blk_cell V_1 2).trans rfl
  have Vcf := blk_free V_1
  have Vl1 : w.heap.size < w1.heap.size := by omega
  go_wp2_with fail
  refine (insz a b c _).mono ?_
  rintro e w2 ⟨rfl, hb2⟩
  have hs2 := hb2.size
  try simp only [World.size_alloc, World.size_setCell] at hs2
  have V_2 : w2.heap[w.heap.size]? = some (.cells #[.int .u64 a, .int .u64 b, .int .i64 c] 33 (0, 0)) := below_at hb2 (by first | omega | (simp; done) | (simp; omega)) (by (repeat (first | (with_reducible assumption) | (with_reducible exact alloc_at _ _) | ((with_reducible apply alloc_at'); (simp; done)) | (with_reducible apply alloc_at_lt) | (with_reducible apply heap_drew_at) | (with_reducible apply heap_drewN_at) | (with_reducible apply heap_setCell_same) | ((with_reducible apply heap_set_ne); (first | omega | (dsimp only; omega) | (simp; done) | (simp; omega))) | (with_reducible apply setRow_at) | ((with_reducible apply setRow_ne); (first | omega | (dsimp only; omega) | (simp; done) | (simp; omega))))))
  have B2 : Below w.heap.size w w2 := Below.trans (by repeat (first | with_reducible assumption | with_reducible exact Below.refl _ _ | with_reducible refine Below.drew ?_ | with_reducible refine below_drewN ?_ _ | with_reducible refine below_alloc ?_ _ | with_reducible refine Below.alloc ?_ (by first | omega | (simp; done) | (simp; omega)) _ | with_reducible refine Below.setCell ?_ (by first | omega | (simp; done) | (simp; omega)) _ | with_reducible refine below_setRow ?_ (by first | omega | (simp; done) | (simp; omega)) _)) (hb2.mono (by first | omega | (simp; done) | (simp; omega)))
  clear hb2 V_1
  clear Vc0 Vc1 Vc2 Vcf
  have Vc0 : w2.cell? ⟨w.heap.size, 0, none⟩ = some (.int .u64 a) := (blk_cell V_2 0).trans rfl
  have Vc1 : w2.cell? ⟨w.heap.size, 1, none⟩ = some (.int .u64 b) := (blk_cell V_2 1).trans rfl
  have Vc2 : w2.cell? ⟨w.heap.size, 2, none⟩ = some (.int .i64 c) := (blk_cell V_2 2).trans rfl
  have Vcf := blk_free V_2
  have Vl2 : w.heap.size < w2.heap.size := by omega
  go_wp2_with fail
  refine (newh _).mono ?_
  rintro e w3 ⟨rfl, hb3, -⟩
  have hs3 := hb3.size
  try simp only [World.size_alloc, World.size_setCell] at hs3
  have V_3 : w3.heap[w.heap.size]? = some (.cells #[.int .u64 a, .int .u64 b, .int .i64 c] 33 (0, 0)) := below_at hb3 (by first | omega | (simp; done) | (simp; omega)) (by (repeat (first | (with_reducible assumption) | (with_reducible exact alloc_at _ _) | ((with_reducible apply alloc_at'); (simp; done)) | (with_reducible apply alloc_at_lt) | (with_reducible apply heap_drew_at) | (with_reducible apply heap_drewN_at) | (with_reducible apply heap_setCell_same) | ((with_reducible apply heap_set_ne); (first | omega | (dsimp only; omega) | (simp; done) | (simp; omega))) | (with_reducible apply setRow_at) | ((with_reducible apply setRow_ne); (first | omega | (dsimp only; omega) | (simp; done) | (simp; omega))))))
  have B3 : Below w.heap.size w w3 := Below.trans (by repeat (first | with_reducible assumption | with_reducible exact Below.refl _ _ | with_reducible refine Below.drew ?_ | with_reducible refine below_drewN ?_ _ | with_reducible refine below_alloc ?_ _ | with_reducible refine Below.alloc ?_ (by first | omega | (simp; done) | (simp; omega)) _ | with_reducible refine Below.setCell ?_ (by first | omega | (simp; done) | (simp; omega)) _ | with_reducible refine below_setRow ?_ (by first | omega | (simp; done) | (simp; omega)) _)) (hb3.mono (by first | omega | (simp; done) | (simp; omega)))
  clear hb3 V_2
  clear Vc0 Vc1 Vc2 Vcf
  have Vc0 : w3.cell? ⟨w.heap.size, 0, none⟩ = some (.int .u64 a) := (blk_cell V_3 0).trans rfl
  have Vc1 : w3.cell? ⟨w.heap.size, 1, none⟩ = some (.int .u64 b) := (blk_cell V_3 1).trans rfl
  have Vc2 : w3.cell? ⟨w.heap.size, 2, none⟩ = some (.int .i64 c) := (blk_cell V_3 2).trans rfl
  have Vcf := blk_free V_3
  have Vl3 : w.heap.size < w3.heap.size := by omega
  go_wp2_with fail
  refine (meldz _ _).mono ?_
  rintro e w4 ⟨rfl, hb4⟩
  have hs4 := hb4.size
  try simp only [World.size_alloc, World.size_setCell] at hs4
  have V_4 : w4.heap[w.heap.size]? = some (.cells #[.int .u64 a, .int .u64 b, .int .i64 c] 33 (0, 0)) := below_at hb4 (by first | omega | (simp; done) | (simp; omega)) (by (repeat (first | (with_reducible assumption) | (with_reducible exact alloc_at _ _) | ((with_reducible apply alloc_at'); (simp; done)) | (with_reducible apply alloc_at_lt) | (with_reducible apply heap_drew_at) | (with_reducible apply heap_drewN_at) | (with_reducible apply heap_setCell_same) | ((with_reducible apply heap_set_ne); (first | omega | (dsimp only; omega) | (simp; done) | (simp; omega))) | (with_reducible apply setRow_at) | ((with_reducible apply setRow_ne); (first | omega | (dsimp only; omega) | (simp; done) | (simp; omega))))))
  have B4 : Below w.heap.size w w4 := Below.trans (by repeat (first | with_reducible assumption | with_reducible exact Below.refl _ _ | with_reducible refine Below.drew ?_ | with_reducible refine below_drewN ?_ _ | with_reducible refine below_alloc ?_ _ | with_reducible refine Below.alloc ?_ (by first | omega | (simp; done) | (simp; omega)) _ | with_reducible refine Below.setCell ?_ (by first | omega | (simp; done) | (simp; omega)) _ | with_reducible refine below_setRow ?_ (by first | omega | (simp; done) | (simp; omega)) _)) (hb4.mono (by first | omega | (simp; done) | (simp; omega)))
  clear hb4 V_3
  clear Vc0 Vc1 Vc2 Vcf
  have Vc0 : w4.cell? ⟨w.heap.size, 0, none⟩ = some (.int .u64 a) := (blk_cell V_4 0).trans rfl
  have Vc1 : w4.cell? ⟨w.heap.size, 1, none⟩ = some (.int .u64 b) := (blk_cell V_4 1).trans rfl
  have Vc2 : w4.cell? ⟨w.heap.size, 2, none⟩ = some (.int .i64 c) := (blk_cell V_4 2).trans rfl
  have Vcf := blk_free V_4
  have Vl4 : w.heap.size < w4.heap.size := by omega
  go_wp2_with fail
  refine (getz n _).mono ?_
  rintro e w5 ⟨rfl, hb5⟩
  have hs5 := hb5.size
  try simp only [World.size_alloc, World.size_setCell] at hs5
  have V_5 : w5.heap[w.heap.size]? = some (.cells #[.int .u64 a, .int .u64 b, .int .i64 c] 33 (0, 0)) := below_at hb5 (by first | omega | (simp; done) | (simp; omega)) (by (repeat (first | (with_reducible assumption) | (with_reducible exact alloc_at _ _) | ((with_reducible apply alloc_at'); (simp; done)) | (with_reducible apply alloc_at_lt) | (with_reducible apply heap_drew_at) | (with_reducible apply heap_drewN_at) | (with_reducible apply heap_setCell_same) | ((with_reducible apply heap_set_ne); (first | omega | (dsimp only; omega) | (simp; done) | (simp; omega))) | (with_reducible apply setRow_at) | ((with_reducible apply setRow_ne); (first | omega | (dsimp only; omega) | (simp; done) | (simp; omega))))))
  have B5 : Below w.heap.size w w5 := Below.trans (by repeat (first | with_reducible assumption | with_reducible exact Below.refl _ _ | with_reducible refine Below.drew ?_ | with_reducible refine below_drewN ?_ _ | with_reducible refine below_alloc ?_ _ | with_reducible refine Below.alloc ?_ (by first | omega | (simp; done) | (simp; omega)) _ | with_reducible refine Below.setCell ?_ (by first | omega | (simp; done) | (simp; omega)) _ | with_reducible refine below_setRow ?_ (by first | omega | (simp; done) | (simp; omega)) _)) (hb5.mono (by first | omega | (simp; done) | (simp; omega)))
  clear hb5 V_4
  clear Vc0 Vc1 Vc2 Vcf
  have Vc0 : w5.cell? ⟨w.heap.size, 0, none⟩ = some (.int .u64 a) := (blk_cell V_5 0).trans rfl
  have Vc1 : w5.cell? ⟨w.heap.size, 1, none⟩ = some (.int .u64 b) := (blk_cell V_5 1).trans rfl
  have Vc2 : w5.cell? ⟨w.heap.size, 2, none⟩ = some (.int .i64 c) := (blk_cell V_5 2).trans rfl
  have Vcf := blk_free V_5
  have Vl5 : w.heap.size < w5.heap.size := by omega
  go_wp2_with fail
  refine (minz _).mono ?_
  rintro e w6 ⟨rfl, hb6⟩
  have hs6 := hb6.size
  try simp only [World.size_alloc, World.size_setCell] at hs6
  have V_6 : w6.heap[w.heap.size]? = some (.cells #[.int .u64 a, .int .u64 b, .int .i64 c] 33 (0, 0)) := below_at hb6 (by first | omega | (simp; done) | (simp; omega)) (by (repeat (first | (with_reducible assumption) | (with_reducible exact alloc_at _ _) | ((with_reducible apply alloc_at'); (simp; done)) | (with_reducible apply alloc_at_lt) | (with_reducible apply heap_drew_at) | (with_reducible apply heap_drewN_at) | (with_reducible apply heap_setCell_same) | ((with_reducible apply heap_set_ne); (first | omega | (dsimp only; omega) | (simp; done) | (simp; omega))) | (with_reducible apply setRow_at) | ((with_reducible apply setRow_ne); (first | omega | (dsimp only; omega) | (simp; done) | (simp; omega))))))
  have B6 : Below w.heap.size w w6 := Below.trans (by repeat (first | with_reducible assumption | with_reducible exact Below.refl _ _ | with_reducible refine Below.drew ?_ | with_reducible refine below_drewN ?_ _ | with_reducible refine below_alloc ?_ _ | with_reducible refine Below.alloc ?_ (by first | omega | (simp; done) | (simp; omega)) _ | with_reducible refine Below.setCell ?_ (by first | omega | (simp; done) | (simp; omega)) _ | with_reducible refine below_setRow ?_ (by first | omega | (simp; done) | (simp; omega)) _)) (hb6.mono (by first | omega | (simp; done) | (simp; omega)))
  clear hb6 V_5
  clear Vc0 Vc1 Vc2 Vcf
  have Vc0 : w6.cell? ⟨w.heap.size, 0, none⟩ = some (.int .u64 a) := (blk_cell V_6 0).trans rfl
  have Vc1 : w6.cell? ⟨w.heap.size, 1, none⟩ = some (.int .u64 b) := (blk_cell V_6 1).trans rfl
  have Vc2 : w6.cell? ⟨w.heap.size, 2, none⟩ = some (.int .i64 c) := (blk_cell V_6 2).trans rfl
  have Vcf := blk_free V_6
  have Vl6 : w.heap.size < w6.heap.size := by omega
  go_wp2_with fail
  refine (popz _).mono ?_
  rintro e w7 ⟨rfl, hb7⟩
  have hs7 := hb7.size
  try simp only [World.size_alloc, World.size_setCell] at hs7
  have V_7 : w7.heap[w.heap.size]? = some (.cells #[.int .u64 a, .int .u64 b, .int .i64 c] 33 (0, 0)) := below_at hb7 (by first | omega | (simp; done) | (simp; omega)) (by (repeat (first | (with_reducible assumption) | (with_reducible exact alloc_at _ _) | ((with_reducible apply alloc_at'); (simp; done)) | (with_reducible apply alloc_at_lt) | (with_reducible apply heap_drew_at) | (with_reducible apply heap_drewN_at) | (with_reducible apply heap_setCell_same) | ((with_reducible apply heap_set_ne); (first | omega | (dsimp only; omega) | (simp; done) | (simp; omega))) | (with_reducible apply setRow_at) | ((with_reducible apply setRow_ne); (first | omega | (dsimp only; omega) | (simp; done) | (simp; omega))))))
  have B7 : Below w.heap.size w w7 := Below.trans (by repeat (first | with_reducible assumption | with_reducible exact Below.refl _ _ | with_reducible refine Below.drew ?_ | with_reducible refine below_drewN ?_ _ | with_reducible refine below_alloc ?_ _ | with_reducible refine Below.alloc ?_ (by first | omega | (simp; done) | (simp; omega)) _ | with_reducible refine Below.setCell ?_ (by first | omega | (simp; done) | (simp; omega)) _ | with_reducible refine below_setRow ?_ (by first | omega | (simp; done) | (simp; omega)) _)) (hb7.mono (by first | omega | (simp; done) | (simp; omega)))
  clear hb7 V_6
  clear Vc0 Vc1 Vc2 Vcf
  have Vc0 : w7.cell? ⟨w.heap.size, 0, none⟩ = some (.int .u64 a) := (blk_cell V_7 0).trans rfl
  have Vc1 : w7.cell? ⟨w.heap.size, 1, none⟩ = some (.int .u64 b) := (blk_cell V_7 1).trans rfl
  have Vc2 : w7.cell? ⟨w.heap.size, 2, none⟩ = some (.int .i64 c) := (blk_cell V_7 2).trans rfl
  have Vcf := blk_free V_7
  have Vl7 : w.heap.size < w7.heap.size := by omega
  go_wp2_with fail
  refine (newh _).mono ?_
  rintro e w8 ⟨rfl, hb8, -⟩
  have hs8 := hb8.size
  try simp only [World.size_alloc, World.size_setCell] at hs8
  have V_8 : w8.heap[w.heap.size]? = some (.cells #[.int .u64 a, .int .u64 b, .int .i64 c] 33 (0, 0)) := below_at hb8 (by first | omega | (simp; done) | (simp; omega)) (by (repeat (first | (with_reducible assumption) | (with_reducible exact alloc_at _ _) | ((with_reducible apply alloc_at'); (simp; done)) | (with_reducible apply alloc_at_lt) | (with_reducible apply heap_drew_at) | (with_reducible apply heap_drewN_at) | (with_reducible apply heap_setCell_same) | ((with_reducible apply heap_set_ne); (first | omega | (dsimp only; omega) | (simp; done) | (simp; omega))) | (with_reducible apply setRow_at) | ((with_reducible apply setRow_ne); (first | omega | (dsimp only; omega) | (simp; done) | (simp; omega))))))
  have B8 : Below w.heap.size w w8 := Below.trans (by repeat (first | with_reducible assumption | with_reducible exact Below.refl _ _ | with_reducible refine Below.drew ?_ | with_reducible refine below_drewN ?_ _ | with_reducible refine below_alloc ?_ _ | with_reducible refine Below.alloc ?_ (by first | omega | (simp; done) | (simp; omega)) _ | with_reducible refine Below.setCell ?_ (by first | omega | (simp; done) | (simp; omega)) _ | with_reducible refine below_setRow ?_ (by first | omega | (simp; done) | (simp; omega)) _)) (hb8.mono (by first | omega | (simp; done) | (simp; omega)))
  clear hb8 V_7
  clear Vc0 Vc1 Vc2 Vcf
  have Vc0 : w8.cell? ⟨w.heap.size, 0, none⟩ = some (.int .u64 a) := (blk_cell V_8 0).trans rfl
  have Vc1 : w8.cell? ⟨w.heap.size, 1, none⟩ = some (.int .u64 b) := (blk_cell V_8 1).trans rfl
  have Vc2 : w8.cell? ⟨w.heap.size, 2, none⟩ = some (.int .i64 c) := (blk_cell V_8 2).trans rfl
  have Vcf := blk_free V_8
  have Vl8 : w.heap.size < w8.heap.size := by omega
  go_wp2_with fail
  refine (meldz2 _ _).mono ?_
  rintro e w9 ⟨rfl, hb9⟩
  have hs9 := hb9.size
  try simp only [World.size_alloc, World.size_setCell] at hs9
  have V_9 : w9.heap[w.heap.size]? = some (.cells #[.int .u64 a, .int .u64 b, .int .i64 c] 33 (0, 0)) := below_at hb9 (by first | omega | (simp; done) | (simp; omega)) (by (repeat (first | (with_reducible assumption) | (with_reducible exact alloc_at _ _) | ((with_reducible apply alloc_at'); (simp; done)) | (with_reducible apply alloc_at_lt) | (with_reducible apply heap_drew_at) | (with_reducible apply heap_drewN_at) | (with_reducible apply heap_setCell_same) | ((with_reducible apply heap_set_ne); (first | omega | (dsimp only; omega) | (simp; done) | (simp; omega))) | (with_reducible apply setRow_at) | ((with_reducible apply setRow_ne); (first | omega | (dsimp only; omega) | (simp; done) | (simp; omega))))))
  have B9 : Below w.heap.size w w9 := Below.trans (by repeat (first | with_reducible assumption | with_reducible exact Below.refl _ _ | with_reducible refine Below.drew ?_ | with_reducible refine below_drewN ?_ _ | with_reducible refine below_alloc ?_ _ | with_reducible refine Below.alloc ?_ (by first | omega | (simp; done) | (simp; omega)) _ | with_reducible refine Below.setCell ?_ (by first | omega | (simp; done) | (simp; omega)) _ | with_reducible refine below_setRow ?_ (by first | omega | (simp; done) | (simp; omega)) _)) (hb9.mono (by first | omega | (simp; done) | (simp; omega)))
  clear hb9 V_8
  clear Vc0 Vc1 Vc2 Vcf
  have Vc0 : w9.cell? ⟨w.heap.size, 0, none⟩ = some (.int .u64 a) := (blk_cell V_9 0).trans rfl
  have Vc1 : w9.cell? ⟨w.heap.size, 1, none⟩ = some (.int .u64 b) := (blk_cell V_9 1).trans rfl
  have Vc2 : w9.cell? ⟨w.heap.size, 2, none⟩ = some (.int .i64 c) := (blk_cell V_9 2).trans rfl
  have Vcf := blk_free V_9
  have Vl9 : w.heap.size < w9.heap.size := by omega
  go_wp2_with fail
  refine (decz n a b c _).mono ?_
  rintro e w10 ⟨rfl, hb10⟩
  have hs10 := hb10.size
  try simp only [World.size_alloc, World.size_setCell] at hs10
  have V_10 : w10.heap[w.heap.size]? = some (.cells #[.int .u64 a, .int .u64 b, .int .i64 c] 33 (0, 0)) := below_at hb10 (by first | omega | (simp; done) | (simp; omega)) (by (repeat (first | (with_reducible assumption) | (with_reducible exact alloc_at _ _) | ((with_reducible apply alloc_at'); (simp; done)) | (with_reducible apply alloc_at_lt) | (with_reducible apply heap_drew_at) | (with_reducible apply heap_drewN_at) | (with_reducible apply heap_setCell_same) | ((with_reducible apply heap_set_ne); (first | omega | (dsimp only; omega) | (simp; done) | (simp; omega))) | (with_reducible apply setRow_at) | ((with_reducible apply setRow_ne); (first | omega | (dsimp only; omega) | (simp; done) | (simp; omega))))))
  have B10 : Below w.heap.size w w10 := Below.trans (by repeat (first | with_reducible assumption | with_reducible exact Below.refl _ _ | with_reducible refine Below.drew ?_ | with_reducible refine below_drewN ?_ _ | with_reducible refine below_alloc ?_ _ | with_reducible refine Below.alloc ?_ (by first | omega | (simp; done) | (simp; omega)) _ | with_reducible refine Below.setCell ?_ (by first | omega | (simp; done) | (simp; omega)) _ | with_reducible refine below_setRow ?_ (by first | omega | (simp; done) | (simp; omega)) _)) (hb10.mono (by first | omega | (simp; done) | (simp; omega)))
  clear hb10 V_9
  clear Vc0 Vc1 Vc2 Vcf
  have Vc0 : w10.cell? ⟨w.heap.size, 0, none⟩ = some (.int .u64 a) := (blk_cell V_10 0).trans rfl
  have Vc1 : w10.cell? ⟨w.heap.size, 1, none⟩ = some (.int .u64 b) := (blk_cell V_10 1).trans rfl
  have Vc2 : w10.cell? ⟨w.heap.size, 2, none⟩ = some (.int .i64 c) := (blk_cell V_10 2).trans rfl
  have Vcf := blk_free V_10
  have Vl10 : w.heap.size < w10.heap.size := by omega
  go_wp2_with fail
  refine (delz n _).mono ?_
  rintro e w11 ⟨rfl, hb11⟩
  have hs11 := hb11.size
  try simp only [World.size_alloc, World.size_setCell] at hs11
  have V_11 : w11.heap[w.heap.size]? = some (.cells #[.int .u64 a, .int .u64 b, .int .i64 c] 33 (0, 0)) := below_at hb11 (by first | omega | (simp; done) | (simp; omega)) (by (repeat (first | (with_reducible assumption) | (with_reducible exact alloc_at _ _) | ((with_reducible apply alloc_at'); (simp; done)) | (with_reducible apply alloc_at_lt) | (with_reducible apply heap_drew_at) | (with_reducible apply heap_drewN_at) | (with_reducible apply heap_setCell_same) | ((with_reducible apply heap_set_ne); (first | omega | (dsimp only; omega) | (simp; done) | (simp; omega))) | (with_reducible apply setRow_at) | ((with_reducible apply setRow_ne); (first | omega | (dsimp only; omega) | (simp; done) | (simp; omega))))))
  have B11 : Below w.heap.size w w11 := Below.trans (by repeat (first | with_reducible assumption | with_reducible exact Below.refl _ _ | with_reducible refine Below.drew ?_ | with_reducible refine below_drewN ?_ _ | with_reducible refine below_alloc ?_ _ | with_reducible refine Below.alloc ?_ (by first | omega | (simp; done) | (simp; omega)) _ | with_reducible refine Below.setCell ?_ (by first | omega | (simp; done) | (simp; omega)) _ | with_reducible refine below_setRow ?_ (by first | omega | (simp; done) | (simp; omega)) _)) (hb11.mono (by first | omega | (simp; done) | (simp; omega)))
  clear hb11 V_10
  clear Vc0 Vc1 Vc2 Vcf
  have Vc0 : w11.cell? ⟨w.heap.size, 0, none⟩ = some (.int .u64 a) := (blk_cell V_11 0).trans rfl
  have Vc1 : w11.cell? ⟨w.heap.size, 1, none⟩ = some (.int .u64 b) := (blk_cell V_11 1).trans rfl
  have Vc2 : w11.cell? ⟨w.heap.size, 2, none⟩ = some (.int .i64 c) := (blk_cell V_11 2).trans rfl
  have Vcf := blk_free V_11
  have Vl11 : w.heap.size < w11.heap.size := by omega
  go_wp2_with fail
  refine (lenz _).mono ?_
  rintro e w12 ⟨rfl, hb12⟩
  have hs12 := hb12.size
  try simp only [World.size_alloc, World.size_setCell] at hs12
  have V_12 : w12.heap[w.heap.size]? = some (.cells #[.int .u64 a, .int .u64 b, .int .i64 c] 33 (0, 0)) := below_at hb12 (by first | omega | (simp; done) | (simp; omega)) (by (repeat (first | (with_reducible assumption) | (with_reducible exact alloc_at _ _) | ((with_reducible apply alloc_at'); (simp; done)) | (with_reducible apply alloc_at_lt) | (with_reducible apply heap_drew_at) | (with_reducible apply heap_drewN_at) | (with_reducible apply heap_setCell_same) | ((with_reducible apply heap_set_ne); (first | omega | (dsimp only; omega) | (simp; done) | (simp; omega))) | (with_reducible apply setRow_at) | ((with_reducible apply setRow_ne); (first | omega | (dsimp only; omega) | (simp; done) | (simp; omega))))))
  have B12 : Below w.heap.size w w12 := Below.trans (by repeat (first | with_reducible assumption | with_reducible exact Below.refl _ _ | with_reducible refine Below.drew ?_ | with_reducible refine below_drewN ?_ _ | with_reducible refine below_alloc ?_ _ | with_reducible refine Below.alloc ?_ (by first | omega | (simp; done) | (simp; omega)) _ | with_reducible refine Below.setCell ?_ (by first | omega | (simp; done) | (simp; omega)) _ | with_reducible refine below_setRow ?_ (by first | omega | (simp; done) | (simp; omega)) _)) (hb12.mono (by first | omega | (simp; done) | (simp; omega)))
  clear hb12 V_11
  clear Vc0 Vc1 Vc2 Vcf
  have Vc0 : w12.cell? ⟨w.heap.size, 0, none⟩ = some (.int .u64 a) := (blk_cell V_12 0).trans rfl
  have Vc1 : w12.cell? ⟨w.heap.size, 1, none⟩ = some (.int .u64 b) := (blk_cell V_12 1).trans rfl
  have Vc2 : w12.cell? ⟨w.heap.size, 2, none⟩ = some (.int .i64 c) := (blk_cell V_12 2).trans rfl
  have Vcf := blk_free V_12
  have Vl12 : w.heap.size < w12.heap.size := by omega
  go_wp2_with fail
  refine (ins0_ok w12.heap.size a b c _ hb0 hb1 (by exact (by (repeat (first | (with_reducible assumption) | (with_reducible exact alloc_at _ _) | ((with_reducible apply alloc_at'); (simp; done)) | (with_reducible apply alloc_at_lt) | (with_reducible apply heap_drew_at) | (with_reducible apply heap_drewN_at) | (with_reducible apply heap_setCell_same) | ((with_reducible apply heap_set_ne); (first | omega | (dsimp only; omega) | (simp; done) | (simp; omega))) | (with_reducible apply setRow_at) | ((with_reducible apply setRow_ne); (first | omega | (dsimp only; omega) | (simp; done) | (simp; omega)))))))).mono ?_
  rintro e w13 ⟨rfl, hG, g, cap, hHz, hg, hgl, hcap, -, -, -⟩
  have B13 : Below w.heap.size w w13 := Below.trans (by repeat (first | with_reducible assumption | with_reducible exact Below.refl _ _ | with_reducible refine Below.drew ?_ | with_reducible refine below_drewN ?_ _ | with_reducible refine below_alloc ?_ _ | with_reducible refine Below.alloc ?_ (by first | omega | (simp; done) | (simp; omega)) _ | with_reducible refine Below.setCell ?_ (by first | omega | (simp; done) | (simp; omega)) _ | with_reducible refine below_setRow ?_ (by first | omega | (simp; done) | (simp; omega)) _)) ⟨hG.os, hG.tape, hG.output, hG.size, fun k hk => hG.block k (by simp; omega) (by intro e; injection e; omega)⟩
  have hV : w13.heap[w.heap.size]? = some (.cells #[.int .u64 a, .int .u64 b, .int .i64 c] 33 (0, 0)) := (hG.block _ (by simp; omega) (by intro e; injection e; omega)).trans (by (repeat (first | (with_reducible assumption) | (with_reducible exact alloc_at _ _) | ((with_reducible apply alloc_at'); (simp; done)) | (with_reducible apply alloc_at_lt) | (with_reducible apply heap_drew_at) | (with_reducible apply heap_drewN_at) | (with_reducible apply heap_setCell_same) | ((with_reducible apply heap_set_ne); (first | omega | (dsimp only; omega) | (simp; done) | (simp; omega))) | (with_reducible apply setRow_at) | ((with_reducible apply setRow_ne); (first | omega | (dsimp only; omega) | (simp; done) | (simp; omega))))))
  have v1 : w13.cell? ⟨w.heap.size, 1, none⟩ = some (.int .u64 b) := (blk_cell hV 1).trans rfl
  have z2 : w13.cell? ⟨w12.heap.size, 2, none⟩ = some (.int .i64 1) := (blk_cell hHz 2).trans rfl
  go_wp2
  go_ret
  exact ⟨by first | rfl | simp, (by repeat (first | with_reducible assumption | with_reducible exact Below.refl _ _ | with_reducible refine Below.drew ?_ | with_reducible refine below_drewN ?_ _ | with_reducible refine below_alloc ?_ _ | with_reducible refine Below.alloc ?_ (by first | omega | (simp; done) | (simp; omega)) _ | with_reducible refine Below.setCell ?_ (by first | omega | (simp; done) | (simp; omega)) _ | with_reducible refine below_setRow ?_ (by first | omega | (simp; done) | (simp; omega)) _))⟩
theorem fibNil_any (a b c n : Int) (w : World) (hb0 : 0 ≤ b) (hb1 : b ≤ 18446744073709551615) :
    Calls Try.prog 7 #[.agg #[.int .u64 a, .int .u64 b, .int .i64 c], .int .i64 n] w fun e w' => e = .returned (.bool true) ∧ Below w.heap.size w w' := by
  by_cases h : b = 0
  · subst h
    exact fibNil_form a 0 c n w
  · exact fibNil_ok a b c n w (by omega) hb1
end Go.Proofs.Ythdbiablpkeagaa
