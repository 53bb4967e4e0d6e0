/- WorkerNil's walk: no table has no nodes and takes none, the zero table is as a new one. -/
import Derived.Test.YtkplhobiciddoaaWPl
namespace Go.Proofs.Ytkplhobiciddoaa
open Go.RowKit Go.Maps
set_option maxRecDepth 20000 in
set_option maxHeartbeats 1000000 in
theorem reg_nil (s : ByteArray) (ep a b c d now : Int) (w : World) : Calls Try.prog 11 #[.pointer none, .string s, .int .i64 ep, .agg #[.int .i64 a, .int .i64 b, .int .i64 c, .int .i64 d], .int .i64 now] w fun e w' => e = .returned (.tuple #[.bool false, .int .i64 10]) ∧ Below w.heap.size w w' := by
  go_enter Try.func11, Try.ntmps11
  go_wp2
  all_goals
    go_ret2
    exact ⟨rfl, (by repeat (first | with_reducible assumption | with_reducible exact Below.refl _ _ | with_reducible refine Below.drew ?_ | with_reducible refine below_drewN ?_ _ | with_reducible refine below_alloc ?_ _ | with_reducible refine Below.alloc ?_ (by first | omega | (simp; done) | (simp; omega)) _ | with_reducible refine Below.setCell ?_ (by first | omega | (simp; done) | (simp; omega)) _ | with_reducible refine below_setRow ?_ (by first | omega | (simp; done) | (simp; omega)) _))⟩
set_option maxRecDepth 20000 in
set_option maxHeartbeats 1000000 in
theorem beat_nil (s : ByteArray) (ep now : Int) (w : World) : Calls Try.prog 13 #[.pointer none, .string s, .int .i64 ep, .int .i64 now] w fun e w' => e = .returned (.int .i64 3) ∧ Below w.heap.size w w' := by
  have hg : ∀ W, Calls Try.prog 12 #[.pointer none, .string s] W fun e w' => e = .returned (.tuple #[.agg #[.string ⟨#[]⟩, .int .i64 0, .int .i64 0, .int .i64 0, .int .i64 0, .int .i64 0, .int .i64 0, .bool false], .int .i64 3]) ∧ Below W.heap.size W w' := fun W => getn_none s W
  go_enter Try.func13, Try.ntmps13
  go_wp2_with fail
  refine (hg _).mono ?_
  rintro e w1 ⟨rfl, hb1⟩
  go_wp2
  all_goals
    go_ret
    exact ⟨rfl, (by repeat (first | with_reducible assumption | with_reducible exact Below.refl _ _ | with_reducible refine Below.drew ?_ | with_reducible refine below_drewN ?_ _ | with_reducible refine below_alloc ?_ _ | with_reducible refine Below.alloc ?_ (by first | omega | (simp; done) | (simp; omega)) _ | with_reducible refine Below.setCell ?_ (by first | omega | (simp; done) | (simp; omega)) _ | with_reducible refine below_setRow ?_ (by first | omega | (simp; done) | (simp; omega)) _))⟩
set_option maxRecDepth 20000 in
set_option maxHeartbeats 1000000 in
theorem exp_nil (now : Int) (w : World) : Calls Try.prog 14 #[.pointer none, .int .i64 now] w fun e w' => e = .returned (.slice none 0 0) ∧ Below w.heap.size w w' := by
  go_enter Try.func14, Try.ntmps14
  go_wp2
  all_goals
    go_ret
    exact ⟨rfl, (by repeat (first | with_reducible assumption | with_reducible exact Below.refl _ _ | with_reducible refine Below.drew ?_ | with_reducible refine below_drewN ?_ _ | with_reducible refine below_alloc ?_ _ | with_reducible refine Below.alloc ?_ (by first | omega | (simp; done) | (simp; omega)) _ | with_reducible refine Below.setCell ?_ (by first | omega | (simp; done) | (simp; omega)) _ | with_reducible refine below_setRow ?_ (by first | omega | (simp; done) | (simp; omega)) _))⟩
set_option maxRecDepth 20000 in
set_option maxHeartbeats 16000000 in
theorem workerNil_any (s : ByteArray) (ep a b c d : Int) (w : World) (hs : s.size ≤ 281474976710656) :
    Calls Try.prog 8 #[.string s, .int .i64 ep, .agg #[.int .i64 a, .int .i64 b, .int .i64 c, .int .i64 d]] w fun e w' => e = .returned (.bool true) ∧ Below w.heap.size w w' := by
  have hg : ∀ W, Calls Try.prog 12 #[.pointer none, .string s] W fun e w' => e = .returned (.tuple #[.agg #[.string ⟨#[]⟩, .int .i64 0, .int .i64 0, .int .i64 0, .int .i64 0, .int .i64 0, .int .i64 0, .bool false], .int .i64 3]) ∧ Below W.heap.size W w' := fun W => getn_none s W
  have HE := eqVt
  go_enter Try.func8, Try.ntmps8
  go_wp2_with fail
  refine (awake_any _).mono ?_
  rintro e w1 ⟨rfl, hb1⟩
  have hs1 := hb1.size
  simp only [World.size_alloc] at hs1
  have Z1 := below_at hb1 (n := w.heap.size) (by first | omega | (simp; done) | (simp; omega)) (by (repeat (first | (with_reducible assumption) | (with_reducible exact alloc_at _ _) | ((with_reducible apply alloc_at'); (simp; done)) | (with_reducible apply alloc_at_lt) | (with_reducible apply heap_drew_at) | (with_reducible apply heap_drewN_at) | (with_reducible apply heap_setCell_same) | ((with_reducible apply heap_set_ne); (first | omega | (dsimp only; omega) | (simp; done) | (simp; omega))) | (with_reducible apply setRow_at) | ((with_reducible apply setRow_ne); (first | omega | (dsimp only; omega) | (simp; done) | (simp; omega))))))
  have B1 : Hid (Below w.heap.size w w1) := Below.trans (by repeat (first | with_reducible assumption | with_reducible exact Below.refl _ _ | with_reducible refine Below.drew ?_ | with_reducible refine below_drewN ?_ _ | with_reducible refine below_alloc ?_ _ | with_reducible refine Below.alloc ?_ (by first | omega | (simp; done) | (simp; omega)) _ | with_reducible refine Below.setCell ?_ (by first | omega | (simp; done) | (simp; omega)) _ | with_reducible refine below_setRow ?_ (by first | omega | (simp; done) | (simp; omega)) _)) (hb1.mono (by first | omega | (simp; done) | (simp; omega)))
  have z0 := blk_cell Z1 0
  have z1 := blk_cell Z1 1
  have z2 := blk_cell Z1 2
  have z3 := blk_cell Z1 3
  simp at z0 z1 z2 z3
  have hl1 := lt_of_at Z1
  have HZ1 := hid Z1
  clear hb1 Z1 hs1
  go_wp2_with fail
  refine (reg_nil s ep a b c d 0 _).mono ?_
  rintro e w2 ⟨rfl, hb2⟩
  have BX2 : Hid (Below w1.heap.size w1 w2) := Below.trans (by repeat (first | with_reducible assumption | with_reducible exact Below.refl _ _ | with_reducible refine Below.drew ?_ | with_reducible refine below_drewN ?_ _ | with_reducible refine below_alloc ?_ _ | with_reducible refine Below.alloc ?_ (by first | omega | (simp; done) | (simp; omega)) _ | with_reducible refine Below.setCell ?_ (by first | omega | (simp; done) | (simp; omega)) _ | with_reducible refine below_setRow ?_ (by first | omega | (simp; done) | (simp; omega)) _)) (hb2.mono (by first | omega | (simp; done) | (simp; omega)))
  clear hb2
  clear z0 z1 z2 z3
  go_wp2_with fail
  refine (hg _).mono ?_
  rintro e w3 ⟨rfl, hb3⟩
  have BX3 : Hid (Below w2.heap.size w2 w3) := Below.trans (by repeat (first | with_reducible assumption | with_reducible exact Below.refl _ _ | with_reducible refine Below.drew ?_ | with_reducible refine below_drewN ?_ _ | with_reducible refine below_alloc ?_ _ | with_reducible refine Below.alloc ?_ (by first | omega | (simp; done) | (simp; omega)) _ | with_reducible refine Below.setCell ?_ (by first | omega | (simp; done) | (simp; omega)) _ | with_reducible refine below_setRow ?_ (by first | omega | (simp; done) | (simp; omega)) _)) (hb3.mono (by first | omega | (simp; done) | (simp; omega)))
  clear hb3
  go_wp2_with fail
  refine (beat_nil s ep 0 _).mono ?_
  rintro e w4 ⟨rfl, hb4⟩
  have BX4 : Hid (Below w3.heap.size w3 w4) := Below.trans (by repeat (first | with_reducible assumption | with_reducible exact Below.refl _ _ | with_reducible refine Below.drew ?_ | with_reducible refine below_drewN ?_ _ | with_reducible refine below_alloc ?_ _ | with_reducible refine Below.alloc ?_ (by first | omega | (simp; done) | (simp; omega)) _ | with_reducible refine Below.setCell ?_ (by first | omega | (simp; done) | (simp; omega)) _ | with_reducible refine below_setRow ?_ (by first | omega | (simp; done) | (simp; omega)) _)) (hb4.mono (by first | omega | (simp; done) | (simp; omega)))
  clear hb4
  go_wp2_with fail
  refine (exp_nil 0 _).mono ?_
  rintro e w5 ⟨rfl, hb5⟩
  have BX5 : Hid (Below w4.heap.size w4 w5) := Below.trans (by repeat (first | with_reducible assumption | with_reducible exact Below.refl _ _ | with_reducible refine Below.drew ?_ | with_reducible refine below_drewN ?_ _ | with_reducible refine below_alloc ?_ _ | with_reducible refine Below.alloc ?_ (by first | omega | (simp; done) | (simp; omega)) _ | with_reducible refine Below.setCell ?_ (by first | omega | (simp; done) | (simp; omega)) _ | with_reducible refine below_setRow ?_ (by first | omega | (simp; done) | (simp; omega)) _)) (hb5.mono (by first | omega | (simp; done) | (simp; omega)))
  clear hb5
  go_wp2_with fail
  refine (all_nil _).mono ?_
  rintro e w6 ⟨rfl, hb6⟩
  have BX6 : Hid (Below w5.heap.size w5 w6) := Below.trans (by repeat (first | with_reducible assumption | with_reducible exact Below.refl _ _ | with_reducible refine Below.drew ?_ | with_reducible refine below_drewN ?_ _ | with_reducible refine below_alloc ?_ _ | with_reducible refine Below.alloc ?_ (by first | omega | (simp; done) | (simp; omega)) _ | with_reducible refine Below.setCell ?_ (by first | omega | (simp; done) | (simp; omega)) _ | with_reducible refine below_setRow ?_ (by first | omega | (simp; done) | (simp; omega)) _)) (hb6.mono (by first | omega | (simp; done) | (simp; omega)))
  clear hb6
  go_wp2_with fail
  refine (live_nil _).mono ?_
  rintro e w7 ⟨v7, rfl, R7, hb7⟩
  obtain ⟨A7, c7, rfl⟩ := rowN_slice R7
  have BX7 : Hid (Below w6.heap.size w6 w7) := Below.trans (by repeat (first | with_reducible assumption | with_reducible exact Below.refl _ _ | with_reducible refine Below.drew ?_ | with_reducible refine below_drewN ?_ _ | with_reducible refine below_alloc ?_ _ | with_reducible refine Below.alloc ?_ (by first | omega | (simp; done) | (simp; omega)) _ | with_reducible refine Below.setCell ?_ (by first | omega | (simp; done) | (simp; omega)) _ | with_reducible refine below_setRow ?_ (by first | omega | (simp; done) | (simp; omega)) _)) (hb7.mono (by first | omega | (simp; done) | (simp; omega)))
  clear hb7 R7
  go_wp2_with fail
  refine (whole_nil _).mono ?_
  rintro e w8 ⟨rfl, hb8⟩
  have BX8 : Hid (Below w7.heap.size w7 w8) := Below.trans (by repeat (first | with_reducible assumption | with_reducible exact Below.refl _ _ | with_reducible refine Below.drew ?_ | with_reducible refine below_drewN ?_ _ | with_reducible refine below_alloc ?_ _ | with_reducible refine Below.alloc ?_ (by first | omega | (simp; done) | (simp; omega)) _ | with_reducible refine Below.setCell ?_ (by first | omega | (simp; done) | (simp; omega)) _ | with_reducible refine below_setRow ?_ (by first | omega | (simp; done) | (simp; omega)) _)) (hb8.mono (by first | omega | (simp; done) | (simp; omega)))
  clear hb8
  have B8 : Hid (Below w1.heap.size w1 w8) := ((((((BX2.out.trans (BX3.out.mono BX2.out.size)).trans (BX4.out.mono (by have := BX2.out.size; have := BX3.out.size; omega))).trans (BX5.out.mono (by have := BX2.out.size; have := BX3.out.size; have := BX4.out.size; omega))).trans (BX6.out.mono (by have := BX2.out.size; have := BX3.out.size; have := BX4.out.size; have := BX5.out.size; omega))).trans (BX7.out.mono (by have := BX2.out.size; have := BX3.out.size; have := BX4.out.size; have := BX5.out.size; have := BX6.out.size; omega))).trans (BX8.out.mono (by have := BX2.out.size; have := BX3.out.size; have := BX4.out.size; have := BX5.out.size; have := BX6.out.size; have := BX7.out.size; omega)))
  clear BX2 BX3 BX4 BX5 BX6 BX7 BX8
  go_upto_region 10 with fail
  refine wp_name ?_
  intro w10 hw10
  have b10 : Below w8.heap.size w8 w10 := by rw [hw10]; exact (by repeat (first | with_reducible assumption | with_reducible exact Below.refl _ _ | with_reducible refine Below.drew ?_ | with_reducible refine below_drewN ?_ _ | with_reducible refine below_alloc ?_ _ | with_reducible refine Below.alloc ?_ (by first | omega | (simp; done) | (simp; omega)) _ | with_reducible refine Below.setCell ?_ (by first | omega | (simp; done) | (simp; omega)) _ | with_reducible refine below_setRow ?_ (by first | omega | (simp; done) | (simp; omega)) _))
  have T10 : w10.heap[w8.heap.size]? = some (.cells #[.map none, .slice none 0 0, .map none] 63 (0, 0)) := by rw [hw10]; exact at_of (by apply Exists.intro; refine ⟨?_, ?_⟩; (focus ((repeat (first | (with_reducible assumption) | (with_reducible exact alloc_at _ _) | ((with_reducible apply alloc_at'); (simp; done)) | (with_reducible apply alloc_at_lt) | (with_reducible apply heap_drew_at) | (with_reducible apply heap_drewN_at) | (with_reducible apply heap_setCell_same) | ((with_reducible apply heap_set_ne); (first | omega | (dsimp only; omega) | (simp; done) | (simp; omega))) | (with_reducible apply setRow_at) | ((with_reducible apply setRow_ne); (first | omega | (dsimp only; omega) | (simp; done) | (simp; omega))))))); simp)
  have R10 : w10.heap[w8.heap.size + 1]? = some (.cells #[.slice none 0 0] 51 (0, 0)) := by rw [hw10]; exact at_of (by apply Exists.intro; refine ⟨?_, ?_⟩; (focus ((repeat (first | (with_reducible assumption) | (with_reducible exact alloc_at _ _) | ((with_reducible apply alloc_at'); (simp; done)) | (with_reducible apply alloc_at_lt) | (with_reducible apply heap_drew_at) | (with_reducible apply heap_drewN_at) | (with_reducible apply heap_setCell_same) | ((with_reducible apply heap_set_ne); (first | omega | (dsimp only; omega) | (simp; done) | (simp; omega))) | (with_reducible apply setRow_at) | ((with_reducible apply setRow_ne); (first | omega | (dsimp only; omega) | (simp; done) | (simp; omega))))))); simp)
  have B18 : Hid (Below w1.heap.size w1 w10) := B8.out.trans (b10.mono B8.out.size)
  have Z10 := below_at B18.out (lt_of_at HZ1.out) HZ1.out
  have ZT : Hid (w.heap.size ≤ w8.heap.size) := by have := B1.out.size; have := B8.out.size; unfold Hid; omega
  have B10 : Hid (Below w.heap.size w w10) := B1.out.trans (B18.out.mono B1.out.size)
  have P10 : Hid (PairW w8.heap.size w10 w8.heap.size (w8.heap.size + 1) [] []) := ⟨tab_start (Nat.le_refl _) T10, _, refN_start (by omega) R10⟩
  obtain ⟨T, hT⟩ : ∃ T, T = w8.heap.size := ⟨_, rfl⟩
  rw [← hT] at P10 ZT ⊢
  obtain ⟨R, hR⟩ : ∃ R, R = T + 1 := ⟨_, rfl⟩
  rw [← hR] at P10 ⊢
  clear hw10 T10 R10 hT hR b10 B18
  have z0 : w10.cell? ⟨w.heap.size, 0, none⟩ = some (.int .i64 a) := (blk_cell Z10 0).trans (by simp)
  have z1 : w10.cell? ⟨w.heap.size, 1, none⟩ = some (.int .i64 b) := (blk_cell Z10 1).trans (by simp)
  have z2 : w10.cell? ⟨w.heap.size, 2, none⟩ = some (.int .i64 c) := (blk_cell Z10 2).trans (by simp)
  have z3 : w10.cell? ⟨w.heap.size, 3, none⟩ = some (.int .i64 d) := (blk_cell Z10 3).trans (by simp)
  have zl := lt_of_at Z10
  have HST : Hid (∀ W, Below w10.heap.size w10 W → Calls Try.prog 17 #[.pointer (some ⟨T, 0, none⟩), .pointer (some ⟨R, 0, none⟩), .agg #[.int .i64 1, .string s, .int .i64 ep, .int .i64 0, .int .i64 a, .int .i64 b, .int .i64 c, .int .i64 d]] W fun e w' => e = .returned (.bool true) ∧ StepW T W w' T R) := fun W hW => stepW1 T T R [] s ep 0 a b c d W (P10.out.below hW) hs
  clear Z10 HZ1 hg HE hl1
  go_region_with (first | (go_at_call 17; refine (HST.out _ (by repeat (first | with_reducible assumption | with_reducible exact Below.refl _ _ | with_reducible refine Below.drew ?_ | with_reducible refine below_drewN ?_ _ | with_reducible refine below_alloc ?_ _ | with_reducible refine Below.alloc ?_ (by first | omega | (simp; done) | (simp; omega)) _ | with_reducible refine Below.setCell ?_ (by first | omega | (simp; done) | (simp; omega)) _ | with_reducible refine below_setRow ?_ (by first | omega | (simp; done) | (simp; omega)) _))).mono ?_; rintro e w92 ⟨rfl, L2, P92, D92⟩; obtain ⟨vr92, N92⟩ := P92.ref; have q92 : w92.cell? ⟨R, 0, none⟩ = some vr92 := (blk_cell N92.2.1 0).trans rfl; have hl92 := lt_of_at N92.2.1; have le92 := P92.len; have E92 : Below w.heap.size w w92 := B10.out.trans (Below.mono (Below.trans (Below.mono (B := w10.heap.size) (by repeat (first | with_reducible assumption | with_reducible exact Below.refl _ _ | with_reducible refine Below.drew ?_ | with_reducible refine below_drewN ?_ _ | with_reducible refine below_alloc ?_ _ | with_reducible refine Below.alloc ?_ (by first | omega | (simp; done) | (simp; omega)) _ | with_reducible refine Below.setCell ?_ (by first | omega | (simp; done) | (simp; omega)) _ | with_reducible refine below_setRow ?_ (by first | omega | (simp; done) | (simp; omega)) _)) P10.out.le) D92) ZT.out)) | (go_at_call 16; refine (all_b T T L2 _ (P92.tab.below (by repeat (first | with_reducible assumption | with_reducible exact Below.refl _ _ | with_reducible refine Below.drew ?_ | with_reducible refine below_drewN ?_ _ | with_reducible refine below_alloc ?_ _ | with_reducible refine Below.alloc ?_ (by first | omega | (simp; done) | (simp; omega)) _ | with_reducible refine Below.setCell ?_ (by first | omega | (simp; done) | (simp; omega)) _ | with_reducible refine below_setRow ?_ (by first | omega | (simp; done) | (simp; omega)) _)))).mono ?_; rintro e w93 ⟨v93, rfl, R93, -, b93⟩; have D93 : Below w92.heap.size w92 w93 := Below.trans (by repeat (first | with_reducible assumption | with_reducible exact Below.refl _ _ | with_reducible refine Below.drew ?_ | with_reducible refine below_drewN ?_ _ | with_reducible refine below_alloc ?_ _ | with_reducible refine Below.alloc ?_ (by first | omega | (simp; done) | (simp; omega)) _ | with_reducible refine Below.setCell ?_ (by first | omega | (simp; done) | (simp; omega)) _ | with_reducible refine below_setRow ?_ (by first | omega | (simp; done) | (simp; omega)) _)) (b93.mono (Below.size (B := w92.heap.size) (w := w92) (by repeat (first | with_reducible assumption | with_reducible exact Below.refl _ _ | with_reducible refine Below.drew ?_ | with_reducible refine below_drewN ?_ _ | with_reducible refine below_alloc ?_ _ | with_reducible refine Below.alloc ?_ (by first | omega | (simp; done) | (simp; omega)) _ | with_reducible refine Below.setCell ?_ (by first | omega | (simp; done) | (simp; omega)) _ | with_reducible refine below_setRow ?_ (by first | omega | (simp; done) | (simp; omega)) _)))); have q93 := (D93.cell (p := ⟨R, 0, none⟩) hl92).trans q92; have E93 : Below w.heap.size w w93 := E92.trans (D93.mono E92.size)) | (go_at_call 18; refine (sameN_eq _ v93 vr92 L2 (ownsRow_at R93 (fun g hg => Below.block (B := w93.heap.size) (w := w93) (by repeat (first | with_reducible assumption | with_reducible exact Below.refl _ _ | with_reducible refine Below.drew ?_ | with_reducible refine below_drewN ?_ _ | with_reducible refine below_alloc ?_ _ | with_reducible refine Below.alloc ?_ (by first | omega | (simp; done) | (simp; omega)) _ | with_reducible refine Below.setCell ?_ (by first | omega | (simp; done) | (simp; omega)) _ | with_reducible refine below_setRow ?_ (by first | omega | (simp; done) | (simp; omega)) _)) g (R93.lt g hg).2)) ((N92.below D93).below (by repeat (first | with_reducible assumption | with_reducible exact Below.refl _ _ | with_reducible refine Below.drew ?_ | with_reducible refine below_drewN ?_ _ | with_reducible refine below_alloc ?_ _ | with_reducible refine Below.alloc ?_ (by first | omega | (simp; done) | (simp; omega)) _ | with_reducible refine Below.setCell ?_ (by first | omega | (simp; done) | (simp; omega)) _ | with_reducible refine below_setRow ?_ (by first | omega | (simp; done) | (simp; omega)) _))).2.2 le92).mono ?_; rintro e w94 ⟨rfl, b94⟩; have D94 : Below w93.heap.size w93 w94 := Below.trans (by repeat (first | with_reducible assumption | with_reducible exact Below.refl _ _ | with_reducible refine Below.drew ?_ | with_reducible refine below_drewN ?_ _ | with_reducible refine below_alloc ?_ _ | with_reducible refine Below.alloc ?_ (by first | omega | (simp; done) | (simp; omega)) _ | with_reducible refine Below.setCell ?_ (by first | omega | (simp; done) | (simp; omega)) _ | with_reducible refine below_setRow ?_ (by first | omega | (simp; done) | (simp; omega)) _)) (b94.mono (Below.size (B := w93.heap.size) (w := w93) (by repeat (first | with_reducible assumption | with_reducible exact Below.refl _ _ | with_reducible refine Below.drew ?_ | with_reducible refine below_drewN ?_ _ | with_reducible refine below_alloc ?_ _ | with_reducible refine Below.alloc ?_ (by first | omega | (simp; done) | (simp; omega)) _ | with_reducible refine Below.setCell ?_ (by first | omega | (simp; done) | (simp; omega)) _ | with_reducible refine below_setRow ?_ (by first | omega | (simp; done) | (simp; omega)) _)))); have E94 : Below w.heap.size w w94 := E93.trans (D94.mono E93.size)))
  all_goals
    have HF := hid E94
    clear q92 hl92 le92 N92 P92 E92 R93 b93 D93 q93 E93 b94 D94 E94 D92 z0 z1 z2 z3 zl
    go_wp2
    go_ret
    exact ⟨rfl, HF.out⟩
end Go.Proofs.Ytkplhobiciddoaa
