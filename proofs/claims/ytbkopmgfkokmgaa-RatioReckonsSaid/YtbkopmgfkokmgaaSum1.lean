/- explore -/
import Derived.Test.YtbkopmgfkokmgaaOver2
import Derived.Deep.DeepCutAuto
namespace Go.Proofs.Ytbkopmgfkokmgaa
open Go.RowKit
set_option maxRecDepth 100000 in
set_option maxHeartbeats 4000000 in
theorem sum_a (an ad bn bd x y z t g t' y' p1 p2 q1 q2 s0 s1 s2 m0 m1 m2 r0 r1 er : Int) (w : World) (by0 : 0 ≤ y) (bt0 : 0 ≤ t) (bg : 1 ≤ g) (hne : (g == 0) = false)
    (H1 : Hid (∀ W, Calls Try.prog 21 #[.int .u64 an, .int .u64 ad] W fun e w' => e = .returned (.agg #[.int .u64 x, .int .u64 y]) ∧ Below W.heap.size W w')) (H2 : Hid (∀ W, Calls Try.prog 21 #[.int .u64 bn, .int .u64 bd] W fun e w' => e = .returned (.agg #[.int .u64 z, .int .u64 t]) ∧ Below W.heap.size W w'))
    (HG : Hid (∀ W, Calls Try.prog 32 #[.int .u64 y, .int .u64 t] W fun e w' => e = .returned (.int .u64 g) ∧ Below W.heap.size W w')) (E1 : Hid (IntKind.u64.wrap (t.tdiv g) = t')) (E2 : Hid (IntKind.u64.wrap (y.tdiv g) = y')) (E3 : Hid (t / g = t')) (E4 : Hid (y / g = y')) (bt1 : 0 ≤ t' ∧ t' ≤ 18446744073709551615) (by1 : 0 ≤ y' ∧ y' ≤ 18446744073709551615)
    (HT1 : Hid (∀ W, Calls Try.prog 35 #[.int .u64 x, .int .u64 t'] W fun e w' => e = .returned (.agg #[.int .u64 0, .int .u64 p1, .int .u64 p2]) ∧ Below W.heap.size W w')) (HT2 : Hid (∀ W, Calls Try.prog 35 #[.int .u64 z, .int .u64 y'] W fun e w' => e = .returned (.agg #[.int .u64 0, .int .u64 q1, .int .u64 q2]) ∧ Below W.heap.size W w'))
    (HP : Hid (∀ W, Calls Try.prog 36 #[.agg #[.int .u64 0, .int .u64 p1, .int .u64 p2], .agg #[.int .u64 0, .int .u64 q1, .int .u64 q2]] W fun e w' => e = .returned (.agg #[.int .u64 s0, .int .u64 s1, .int .u64 s2]) ∧ Below W.heap.size W w')) (HO : Hid (∀ W, Calls Try.prog 38 #[.agg #[.int .u64 s0, .int .u64 s1, .int .u64 s2], .int .u64 y, .int .u64 t'] W fun e w' => e = .returned (.tuple #[.agg #[.int .u64 r0, .int .u64 r1], .int .i64 er]) ∧ Below W.heap.size W w')) :
    Calls Try.prog 28 #[.agg #[.int .u64 an, .int .u64 ad], .agg #[.int .u64 bn, .int .u64 bd], .bool false] w fun e w' => e = .returned (.tuple #[.agg #[.int .u64 r0, .int .u64 r1], .int .i64 er]) ∧ Below w.heap.size w w' := by
  go_enter Try.func28, Try.ntmps28
  go_wp2_with fail
  obtain ⟨w1, hw1⟩ : ∃ x : World, x = ((w.alloc (.cells #[.int .u64 an, .int .u64 ad] 24)).alloc (.cells #[.int .u64 bn, .int .u64 bd] 24)).alloc (.cells #[.int .u64 0, .int .u64 0] 24) := ⟨_, rfl⟩
  rw [← hw1]
  have B1 : Below w.heap.size w w1 := by rw [hw1]; exact (by repeat (first | with_reducible assumption | with_reducible exact Below.refl _ _ | with_reducible refine Below.drew ?_ | with_reducible refine below_drewN ?_ _ | with_reducible refine below_alloc ?_ _ | with_reducible refine Below.alloc ?_ (by first | omega | (simp; done) | (simp; omega)) _ | with_reducible refine Below.setCell ?_ (by first | omega | (simp; done) | (simp; omega)) _ | with_reducible refine below_setRow ?_ (by first | omega | (simp; done) | (simp; omega)) _))
  have A_1 : w1.heap[w.heap.size]? = some (.cells #[.int .u64 an, .int .u64 ad] 24 (0, 0)) := by rw [hw1]; exact at_of (by apply Exists.intro; refine ⟨?_, ?_⟩; (focus ((repeat (first | (with_reducible assumption) | (with_reducible exact alloc_at _ _) | ((with_reducible apply alloc_at'); (simp; done)) | (with_reducible apply alloc_at_lt) | (with_reducible apply heap_drew_at) | (with_reducible apply heap_drewN_at) | (with_reducible apply heap_setCell_same) | ((with_reducible apply heap_set_ne); (first | omega | (dsimp only; omega) | (simp; done) | (simp; omega))) | (with_reducible apply setRow_at) | ((with_reducible apply setRow_ne); (first | omega | (dsimp only; omega) | (simp; done) | (simp; omega))))))); simp)
  have B_1 : w1.heap[w.heap.size + 1]? = some (.cells #[.int .u64 bn, .int .u64 bd] 24 (0, 0)) := by rw [hw1]; exact at_of (by apply Exists.intro; refine ⟨?_, ?_⟩; (focus ((repeat (first | (with_reducible assumption) | (with_reducible exact alloc_at _ _) | ((with_reducible apply alloc_at'); (simp; done)) | (with_reducible apply alloc_at_lt) | (with_reducible apply heap_drew_at) | (with_reducible apply heap_drewN_at) | (with_reducible apply heap_setCell_same) | ((with_reducible apply heap_set_ne); (first | omega | (dsimp only; omega) | (simp; done) | (simp; omega))) | (with_reducible apply setRow_at) | ((with_reducible apply setRow_ne); (first | omega | (dsimp only; omega) | (simp; done) | (simp; omega))))))); simp)
  have R_1 : w1.heap[w.heap.size + 1 + 1]? = some (.cells #[.int .u64 0, .int .u64 0] 24 (0, 0)) := by rw [hw1]; exact at_of (by apply Exists.intro; refine ⟨?_, ?_⟩; (focus ((repeat (first | (with_reducible assumption) | (with_reducible exact alloc_at _ _) | ((with_reducible apply alloc_at'); (simp; done)) | (with_reducible apply alloc_at_lt) | (with_reducible apply heap_drew_at) | (with_reducible apply heap_drewN_at) | (with_reducible apply heap_setCell_same) | ((with_reducible apply heap_set_ne); (first | omega | (dsimp only; omega) | (simp; done) | (simp; omega))) | (with_reducible apply setRow_at) | ((with_reducible apply setRow_ne); (first | omega | (dsimp only; omega) | (simp; done) | (simp; omega))))))); simp)
  clear hw1
  have Ac0 : w1.cell? ⟨w.heap.size, 0, none⟩ = some (.int .u64 an) := (blk_cell A_1 0).trans rfl
  have Ac1 : w1.cell? ⟨w.heap.size, 1, none⟩ = some (.int .u64 ad) := (blk_cell A_1 1).trans rfl
  have Acf := blk_free A_1
  have Bc0 : w1.cell? ⟨w.heap.size + 1, 0, none⟩ = some (.int .u64 bn) := (blk_cell B_1 0).trans rfl
  have Bc1 : w1.cell? ⟨w.heap.size + 1, 1, none⟩ = some (.int .u64 bd) := (blk_cell B_1 1).trans rfl
  have Bcf := blk_free B_1
  have Rc0 : w1.cell? ⟨w.heap.size + 1 + 1, 0, none⟩ = some (.int .u64 0) := (blk_cell R_1 0).trans rfl
  have Rc1 : w1.cell? ⟨w.heap.size + 1 + 1, 1, none⟩ = some (.int .u64 0) := (blk_cell R_1 1).trans rfl
  have Rcf := blk_free R_1
  have Al1 : w.heap.size < w1.heap.size := lt_of_at A_1
  have Bl1 : w.heap.size + 1 < w1.heap.size := lt_of_at B_1
  have Rl1 : w.heap.size + 1 + 1 < w1.heap.size := lt_of_at R_1
  have Ae0 : ∀ lx_ : Lat w1.heap.size w1, lx_.w.cell? ⟨w.heap.size, 0, none⟩ = some (.int .u64 an) := fun lx_ => by rw [lx_.cell _ _ Al1]; exact Ac0
  have Ae1 : ∀ lx_ : Lat w1.heap.size w1, lx_.w.cell? ⟨w.heap.size, 1, none⟩ = some (.int .u64 ad) := fun lx_ => by rw [lx_.cell _ _ Al1]; exact Ac1
  have Be0 : ∀ lx_ : Lat w1.heap.size w1, lx_.w.cell? ⟨w.heap.size + 1, 0, none⟩ = some (.int .u64 bn) := fun lx_ => by rw [lx_.cell _ _ Bl1]; exact Bc0
  have Be1 : ∀ lx_ : Lat w1.heap.size w1, lx_.w.cell? ⟨w.heap.size + 1, 1, none⟩ = some (.int .u64 bd) := fun lx_ => by rw [lx_.cell _ _ Bl1]; exact Bc1
  refine wp_region_lat_tail 10 (by kernel_rfl) (by kernel_rfl) ?_
  simp only [List.take_succ_cons, List.take_zero, List.drop_succ_cons, List.drop_zero]
  repeat (go_big_quiet_step (first | (go_at_call_of 21 (Value.int IntKind.u64 an); exact lat_of (Nat.le_refl _) (H1.out _)) | (go_at_call_of 21 (Value.int IntKind.u64 bn); exact lat_of (Nat.le_refl _) (H2.out _))))
  refine wpQuiet_nil ?_
  rintro w2 ⟨x2, hx2⟩
  have hb2 := x2.h
  rw [← hx2] at hb2
  clear hx2 x2 Ae0 Ae1 Be0 Be1
  have hs2 := hb2.size
  try simp only [World.size_alloc, World.size_setCell] at hs2
  have A_2 : w2.heap[w.heap.size]? = some (.cells #[.int .u64 an, .int .u64 ad] 24 (0, 0)) := below_at hb2 (by first | omega | (simp; done) | (simp; omega)) (by (repeat (first | (with_reducible assumption) | (with_reducible exact alloc_at _ _) | ((with_reducible apply alloc_at'); (simp; done)) | (with_reducible apply alloc_at_lt) | (with_reducible apply heap_drew_at) | (with_reducible apply heap_drewN_at) | (with_reducible apply heap_setCell_same) | ((with_reducible apply heap_set_ne); (first | omega | (dsimp only; omega) | (simp; done) | (simp; omega))) | (with_reducible apply setRow_at) | ((with_reducible apply setRow_ne); (first | omega | (dsimp only; omega) | (simp; done) | (simp; omega))))))
  have B_2 : w2.heap[w.heap.size + 1]? = some (.cells #[.int .u64 bn, .int .u64 bd] 24 (0, 0)) := below_at hb2 (by first | omega | (simp; done) | (simp; omega)) (by (repeat (first | (with_reducible assumption) | (with_reducible exact alloc_at _ _) | ((with_reducible apply alloc_at'); (simp; done)) | (with_reducible apply alloc_at_lt) | (with_reducible apply heap_drew_at) | (with_reducible apply heap_drewN_at) | (with_reducible apply heap_setCell_same) | ((with_reducible apply heap_set_ne); (first | omega | (dsimp only; omega) | (simp; done) | (simp; omega))) | (with_reducible apply setRow_at) | ((with_reducible apply setRow_ne); (first | omega | (dsimp only; omega) | (simp; done) | (simp; omega))))))
  have R_2 : w2.heap[w.heap.size + 1 + 1]? = some (.cells #[.int .u64 0, .int .u64 0] 24 (0, 0)) := below_at hb2 (by first | omega | (simp; done) | (simp; omega)) (by (repeat (first | (with_reducible assumption) | (with_reducible exact alloc_at _ _) | ((with_reducible apply alloc_at'); (simp; done)) | (with_reducible apply alloc_at_lt) | (with_reducible apply heap_drew_at) | (with_reducible apply heap_drewN_at) | (with_reducible apply heap_setCell_same) | ((with_reducible apply heap_set_ne); (first | omega | (dsimp only; omega) | (simp; done) | (simp; omega))) | (with_reducible apply setRow_at) | ((with_reducible apply setRow_ne); (first | omega | (dsimp only; omega) | (simp; done) | (simp; omega))))))
  have B2 : Below w.heap.size w w2 := Below.trans (by repeat (first | with_reducible assumption | with_reducible exact Below.refl _ _ | with_reducible refine Below.drew ?_ | with_reducible refine below_drewN ?_ _ | with_reducible refine below_alloc ?_ _ | with_reducible refine Below.alloc ?_ (by first | omega | (simp; done) | (simp; omega)) _ | with_reducible refine Below.setCell ?_ (by first | omega | (simp; done) | (simp; omega)) _ | with_reducible refine below_setRow ?_ (by first | omega | (simp; done) | (simp; omega)) _)) (hb2.mono (by first | omega | (simp; done) | (simp; omega)))
  clear hb2 A_1 B_1 R_1
  clear Ac0 Ac1 Acf
  clear Bc0 Bc1 Bcf
  clear Rc0 Rc1 Rcf
  have Ac0 : w2.cell? ⟨w.heap.size, 0, none⟩ = some (.int .u64 an) := (blk_cell A_2 0).trans rfl
  have Ac1 : w2.cell? ⟨w.heap.size, 1, none⟩ = some (.int .u64 ad) := (blk_cell A_2 1).trans rfl
  have Acf := blk_free A_2
  have Bc0 : w2.cell? ⟨w.heap.size + 1, 0, none⟩ = some (.int .u64 bn) := (blk_cell B_2 0).trans rfl
  have Bc1 : w2.cell? ⟨w.heap.size + 1, 1, none⟩ = some (.int .u64 bd) := (blk_cell B_2 1).trans rfl
  have Bcf := blk_free B_2
  have Rc0 : w2.cell? ⟨w.heap.size + 1 + 1, 0, none⟩ = some (.int .u64 0) := (blk_cell R_2 0).trans rfl
  have Rc1 : w2.cell? ⟨w.heap.size + 1 + 1, 1, none⟩ = some (.int .u64 0) := (blk_cell R_2 1).trans rfl
  have Rcf := blk_free R_2
  have Al2 : w.heap.size < w2.heap.size := by omega
  have Bl2 : w.heap.size + 1 < w2.heap.size := by omega
  have Rl2 : w.heap.size + 1 + 1 < w2.heap.size := by omega
  go_wp2_with fail
  refine (HG.out _).mono ?_
  rintro e w3 ⟨rfl, hb3⟩
  have hs3 := hb3.size
  try simp only [World.size_alloc, World.size_setCell] at hs3
  have A_3 : w3.heap[w.heap.size]? = some (.cells #[.int .u64 x, .int .u64 y] 24 (0, 0)) := below_at hb3 (by first | omega | (simp; done) | (simp; omega)) (at_of (by apply Exists.intro; refine ⟨?_, ?_⟩; (focus ((repeat (first | (with_reducible assumption) | (with_reducible exact alloc_at _ _) | ((with_reducible apply alloc_at'); (simp; done)) | (with_reducible apply alloc_at_lt) | (with_reducible apply heap_drew_at) | (with_reducible apply heap_drewN_at) | (with_reducible apply heap_setCell_same) | ((with_reducible apply heap_set_ne); (first | omega | (dsimp only; omega) | (simp; done) | (simp; omega))) | (with_reducible apply setRow_at) | ((with_reducible apply setRow_ne); (first | omega | (dsimp only; omega) | (simp; done) | (simp; omega))))))); simp))
  have B_3 : w3.heap[w.heap.size + 1]? = some (.cells #[.int .u64 z, .int .u64 t] 24 (0, 0)) := below_at hb3 (by first | omega | (simp; done) | (simp; omega)) (at_of (by apply Exists.intro; refine ⟨?_, ?_⟩; (focus ((repeat (first | (with_reducible assumption) | (with_reducible exact alloc_at _ _) | ((with_reducible apply alloc_at'); (simp; done)) | (with_reducible apply alloc_at_lt) | (with_reducible apply heap_drew_at) | (with_reducible apply heap_drewN_at) | (with_reducible apply heap_setCell_same) | ((with_reducible apply heap_set_ne); (first | omega | (dsimp only; omega) | (simp; done) | (simp; omega))) | (with_reducible apply setRow_at) | ((with_reducible apply setRow_ne); (first | omega | (dsimp only; omega) | (simp; done) | (simp; omega))))))); simp))
  have R_3 : w3.heap[w.heap.size + 1 + 1]? = some (.cells #[.int .u64 0, .int .u64 0] 24 (0, 0)) := below_at hb3 (by first | omega | (simp; done) | (simp; omega)) (by (repeat (first | (with_reducible assumption) | (with_reducible exact alloc_at _ _) | ((with_reducible apply alloc_at'); (simp; done)) | (with_reducible apply alloc_at_lt) | (with_reducible apply heap_drew_at) | (with_reducible apply heap_drewN_at) | (with_reducible apply heap_setCell_same) | ((with_reducible apply heap_set_ne); (first | omega | (dsimp only; omega) | (simp; done) | (simp; omega))) | (with_reducible apply setRow_at) | ((with_reducible apply setRow_ne); (first | omega | (dsimp only; omega) | (simp; done) | (simp; omega))))))
  have B3 : Below w.heap.size w w3 := Below.trans (by repeat (first | with_reducible assumption | with_reducible exact Below.refl _ _ | with_reducible refine Below.drew ?_ | with_reducible refine below_drewN ?_ _ | with_reducible refine below_alloc ?_ _ | with_reducible refine Below.alloc ?_ (by first | omega | (simp; done) | (simp; omega)) _ | with_reducible refine Below.setCell ?_ (by first | omega | (simp; done) | (simp; omega)) _ | with_reducible refine below_setRow ?_ (by first | omega | (simp; done) | (simp; omega)) _)) (hb3.mono (by first | omega | (simp; done) | (simp; omega)))
  clear hb3 A_2 B_2 R_2
  clear Ac0 Ac1 Acf
  clear Bc0 Bc1 Bcf
  clear Rc0 Rc1 Rcf
  have Ac0 : w3.cell? ⟨w.heap.size, 0, none⟩ = some (.int .u64 x) := (blk_cell A_3 0).trans rfl
  have Ac1 : w3.cell? ⟨w.heap.size, 1, none⟩ = some (.int .u64 y) := (blk_cell A_3 1).trans rfl
  have Acf := blk_free A_3
  have Bc0 : w3.cell? ⟨w.heap.size + 1, 0, none⟩ = some (.int .u64 z) := (blk_cell B_3 0).trans rfl
  have Bc1 : w3.cell? ⟨w.heap.size + 1, 1, none⟩ = some (.int .u64 t) := (blk_cell B_3 1).trans rfl
  have Bcf := blk_free B_3
  have Rc0 : w3.cell? ⟨w.heap.size + 1 + 1, 0, none⟩ = some (.int .u64 0) := (blk_cell R_3 0).trans rfl
  have Rc1 : w3.cell? ⟨w.heap.size + 1 + 1, 1, none⟩ = some (.int .u64 0) := (blk_cell R_3 1).trans rfl
  have Rcf := blk_free R_3
  have Al3 : w.heap.size < w3.heap.size := by omega
  have Bl3 : w.heap.size + 1 < w3.heap.size := by omega
  have Rl3 : w.heap.size + 1 + 1 < w3.heap.size := by omega
  have hq1 := E1.out
  have hq2 := E2.out
  have hq3 := E3.out
  have hq4 := E4.out
  obtain ⟨bt3, bt4⟩ := bt1
  obtain ⟨by3, by4⟩ := by1
  have hne2 : ¬ g = 0 := by omega
  have hne3 : ¬ (0 = g) := by omega
  go_upto_region 3 with fail
  go_cut [9, 10] (fun s9_ s10_ wx => ∃ xX xY : Nat, s9_ = .pointer (some ⟨xX, 0, none⟩) ∧ s10_ = .pointer (some ⟨xY, 0, none⟩) ∧ Below w3.heap.size w3 wx ∧ wx.heap[xX]? = some (.cells #[.int .u64 0, .int .u64 p1, .int .u64 p2] 63 (0, 0)) ∧ wx.heap[xY]? = some (.cells #[.int .u64 0, .int .u64 q1, .int .u64 q2] 63 (0, 0)))
  case first =>
    go_region_held3 (fun w' => Below w3.heap.size w3 w' ∧ (∀ b o, b < w3.heap.size → w'.cell? ⟨b, o, none⟩ = w3.cell? ⟨b, o, none⟩) ∧ ∀ b o, b < w3.heap.size → w'.frozen? ⟨b, o, none⟩ = w3.frozen? ⟨b, o, none⟩) (first | ((try go_split_ands); (try dsimp only); refine same_of ?_; (repeat (first | with_reducible assumption | with_reducible exact Below.refl _ _ | with_reducible refine Below.drew ?_ | with_reducible refine below_drewN ?_ _ | with_reducible refine below_alloc ?_ _ | with_reducible refine Below.alloc ?_ (by first | omega | (simp; done) | (simp; omega)) _ | with_reducible refine Below.setCell ?_ (by first | omega | (simp; done) | (simp; omega)) _ | with_reducible refine below_setRow ?_ (by first | omega | (simp; done) | (simp; omega)) _)); done) | ((try go_split_ands); (try dsimp only); refine same_of ?_; (repeat (first | with_reducible refine below_call ?_ hbT1 | with_reducible refine below_call ?_ hbT2 | with_reducible assumption | with_reducible exact Below.refl _ _ | with_reducible refine Below.drew ?_ | with_reducible refine below_alloc ?_ _ | with_reducible refine Below.setCell ?_ (by (try have qz_hbT1 := hbT1.size); (try simp only [World.size_alloc, World.size_setCell, heap_drew] at qz_hbT1); (try have qz_hbT2 := hbT2.size); (try simp only [World.size_alloc, World.size_setCell, heap_drew] at qz_hbT2); (try (obtain ⟨qy_hbT1, -, -⟩ : Below _ _ wT1 ∧ _ ∧ _ := by assumption; have qx_hbT1 := qy_hbT1.size)); (try (obtain ⟨qy_hbT2, -, -⟩ : Below _ _ wT2 ∧ _ ∧ _ := by assumption; have qx_hbT2 := qy_hbT2.size)); first | omega | (dsimp only; omega)) _)); done)) (first | (go_at_call_of 35 (Value.int IntKind.u64 x); refine (HT1.out _).mono ?_; rintro e wT1 ⟨rfl, hbT1⟩; obtain ⟨hcT1, hfT1⟩ := bcell hbT1; have hsT1 := hbT1.size; (try simp only [World.size_alloc, World.size_setCell, heap_drew] at hsT1); (try have hlT1_w3_0 : w3.heap.size < wT1.heap.size := by omega); (try have hlT1_w3_1 : w3.heap.size + 1 < wT1.heap.size := by omega)) | (go_at_call_of 35 (Value.int IntKind.u64 z); refine (HT2.out _).mono ?_; rintro e wT2 ⟨rfl, hbT2⟩; obtain ⟨hcT2, hfT2⟩ := bcell hbT2; have hsT2 := hbT2.size; (try simp only [World.size_alloc, World.size_setCell, heap_drew] at hsT2); (try have hlT2_w3_0 : w3.heap.size < wT2.heap.size := by omega); (try have hlT2_w3_1 : w3.heap.size + 1 < wT2.heap.size := by omega); (try have hlT2_wT1_0 : wT1.heap.size < wT2.heap.size := by omega); (try have hlT2_wT1_1 : wT1.heap.size + 1 < wT2.heap.size := by omega)))
    all_goals
      go_wp2_with fail
      obtain ⟨hb98, -, -⟩ : Below w3.heap.size w3 _ ∧ _ ∧ _ := by assumption
      go_meet
      exact ⟨_, _, rfl, rfl, (by repeat (first | with_reducible assumption | with_reducible exact Below.refl _ _ | with_reducible refine Below.drew ?_ | with_reducible refine below_drewN ?_ _ | with_reducible refine below_alloc ?_ _ | with_reducible refine Below.alloc ?_ (by first | omega | (simp; done) | (simp; omega)) _ | with_reducible refine Below.setCell ?_ (by first | omega | (simp; done) | (simp; omega)) _ | with_reducible refine below_setRow ?_ (by first | omega | (simp; done) | (simp; omega)) _)), at_of (by apply Exists.intro; refine ⟨?_, ?_⟩; (focus ((repeat (first | ((with_reducible refine below_at hbT1 ?_ ?_); (focus (first | omega | (dsimp only; omega) | (simp; done) | (simp; omega)))) | ((with_reducible refine below_at hbT2 ?_ ?_); (focus (first | omega | (dsimp only; omega) | (simp; done) | (simp; omega)))) | (with_reducible assumption) | (with_reducible exact alloc_at _ _) | ((with_reducible apply alloc_at'); (simp; done)) | (with_reducible apply alloc_at_lt) | (with_reducible apply heap_drew_at) | (with_reducible apply heap_drewN_at) | (with_reducible apply heap_setCell_same) | ((with_reducible apply heap_set_ne); (first | omega | (dsimp only; omega) | (simp; done) | (simp; omega))) | (with_reducible apply setRow_at) | ((with_reducible apply setRow_ne); (first | omega | (dsimp only; omega) | (simp; done) | (simp; omega))))))); simp), at_of (by apply Exists.intro; refine ⟨?_, ?_⟩; (focus ((repeat (first | ((with_reducible refine below_at hbT1 ?_ ?_); (focus (first | omega | (dsimp only; omega) | (simp; done) | (simp; omega)))) | ((with_reducible refine below_at hbT2 ?_ ?_); (focus (first | omega | (dsimp only; omega) | (simp; done) | (simp; omega)))) | (with_reducible assumption) | (with_reducible exact alloc_at _ _) | ((with_reducible apply alloc_at'); (simp; done)) | (with_reducible apply alloc_at_lt) | (with_reducible apply heap_drew_at) | (with_reducible apply heap_drewN_at) | (with_reducible apply heap_setCell_same) | ((with_reducible apply heap_set_ne); (first | omega | (dsimp only; omega) | (simp; done) | (simp; omega))) | (with_reducible apply setRow_at) | ((with_reducible apply setRow_ne); (first | omega | (dsimp only; omega) | (simp; done) | (simp; omega))))))); simp)⟩
  case rest =>
    obtain ⟨xX, xY, rfl, rfl, hb4, X_4, Y_4⟩ := hcut
    obtain ⟨w4, rfl⟩ : ∃ x : World, x = wc := ⟨_, rfl⟩
    have hs4 := hb4.size
    try simp only [World.size_alloc, World.size_setCell] at hs4
    have A_4 : w4.heap[w.heap.size]? = some (.cells #[.int .u64 x, .int .u64 y] 24 (0, 0)) := below_at hb4 (by first | omega | (simp; done) | (simp; omega)) (at_of (by apply Exists.intro; refine ⟨?_, ?_⟩; (focus ((repeat (first | (with_reducible assumption) | (with_reducible exact alloc_at _ _) | ((with_reducible apply alloc_at'); (simp; done)) | (with_reducible apply alloc_at_lt) | (with_reducible apply heap_drew_at) | (with_reducible apply heap_drewN_at) | (with_reducible apply heap_setCell_same) | ((with_reducible apply heap_set_ne); (first | omega | (dsimp only; omega) | (simp; done) | (simp; omega))) | (with_reducible apply setRow_at) | ((with_reducible apply setRow_ne); (first | omega | (dsimp only; omega) | (simp; done) | (simp; omega))))))); simp))
    have B_4 : w4.heap[w.heap.size + 1]? = some (.cells #[.int .u64 z, .int .u64 t] 24 (0, 0)) := below_at hb4 (by first | omega | (simp; done) | (simp; omega)) (at_of (by apply Exists.intro; refine ⟨?_, ?_⟩; (focus ((repeat (first | (with_reducible assumption) | (with_reducible exact alloc_at _ _) | ((with_reducible apply alloc_at'); (simp; done)) | (with_reducible apply alloc_at_lt) | (with_reducible apply heap_drew_at) | (with_reducible apply heap_drewN_at) | (with_reducible apply heap_setCell_same) | ((with_reducible apply heap_set_ne); (first | omega | (dsimp only; omega) | (simp; done) | (simp; omega))) | (with_reducible apply setRow_at) | ((with_reducible apply setRow_ne); (first | omega | (dsimp only; omega) | (simp; done) | (simp; omega))))))); simp))
    have R_4 : w4.heap[w.heap.size + 1 + 1]? = some (.cells #[.int .u64 0, .int .u64 0] 24 (0, 0)) := below_at hb4 (by first | omega | (simp; done) | (simp; omega)) (by (repeat (first | (with_reducible assumption) | (with_reducible exact alloc_at _ _) | ((with_reducible apply alloc_at'); (simp; done)) | (with_reducible apply alloc_at_lt) | (with_reducible apply heap_drew_at) | (with_reducible apply heap_drewN_at) | (with_reducible apply heap_setCell_same) | ((with_reducible apply heap_set_ne); (first | omega | (dsimp only; omega) | (simp; done) | (simp; omega))) | (with_reducible apply setRow_at) | ((with_reducible apply setRow_ne); (first | omega | (dsimp only; omega) | (simp; done) | (simp; omega))))))
    have B4 : Below w.heap.size w w4 := Below.trans (by repeat (first | with_reducible assumption | with_reducible exact Below.refl _ _ | with_reducible refine Below.drew ?_ | with_reducible refine below_drewN ?_ _ | with_reducible refine below_alloc ?_ _ | with_reducible refine Below.alloc ?_ (by first | omega | (simp; done) | (simp; omega)) _ | with_reducible refine Below.setCell ?_ (by first | omega | (simp; done) | (simp; omega)) _ | with_reducible refine below_setRow ?_ (by first | omega | (simp; done) | (simp; omega)) _)) (hb4.mono (by first | omega | (simp; done) | (simp; omega)))
    clear hb4 A_3 B_3 R_3
    clear Ac0 Ac1 Acf
    clear Bc0 Bc1 Bcf
    clear Rc0 Rc1 Rcf
    have Ac0 : w4.cell? ⟨w.heap.size, 0, none⟩ = some (.int .u64 x) := (blk_cell A_4 0).trans rfl
    have Ac1 : w4.cell? ⟨w.heap.size, 1, none⟩ = some (.int .u64 y) := (blk_cell A_4 1).trans rfl
    have Acf := blk_free A_4
    have Bc0 : w4.cell? ⟨w.heap.size + 1, 0, none⟩ = some (.int .u64 z) := (blk_cell B_4 0).trans rfl
    have Bc1 : w4.cell? ⟨w.heap.size + 1, 1, none⟩ = some (.int .u64 t) := (blk_cell B_4 1).trans rfl
    have Bcf := blk_free B_4
    have Rc0 : w4.cell? ⟨w.heap.size + 1 + 1, 0, none⟩ = some (.int .u64 0) := (blk_cell R_4 0).trans rfl
    have Rc1 : w4.cell? ⟨w.heap.size + 1 + 1, 1, none⟩ = some (.int .u64 0) := (blk_cell R_4 1).trans rfl
    have Rcf := blk_free R_4
    have Al4 : w.heap.size < w4.heap.size := by omega
    have Bl4 : w.heap.size + 1 < w4.heap.size := by omega
    have Rl4 : w.heap.size + 1 + 1 < w4.heap.size := by omega
    have Xc0 : w4.cell? ⟨xX, 0, none⟩ = some (.int .u64 0) := (blk_cell X_4 0).trans rfl
    have Xc1 : w4.cell? ⟨xX, 1, none⟩ = some (.int .u64 p1) := (blk_cell X_4 1).trans rfl
    have Xc2 : w4.cell? ⟨xX, 2, none⟩ = some (.int .u64 p2) := (blk_cell X_4 2).trans rfl
    have Xcf := blk_free X_4
    have Xl4 : xX < w4.heap.size := lt_of_at X_4
    have Yc0 : w4.cell? ⟨xY, 0, none⟩ = some (.int .u64 0) := (blk_cell Y_4 0).trans rfl
    have Yc1 : w4.cell? ⟨xY, 1, none⟩ = some (.int .u64 q1) := (blk_cell Y_4 1).trans rfl
    have Yc2 : w4.cell? ⟨xY, 2, none⟩ = some (.int .u64 q2) := (blk_cell Y_4 2).trans rfl
    have Ycf := blk_free Y_4
    have Yl4 : xY < w4.heap.size := lt_of_at Y_4
    go_wp2_with fail
    refine (HP.out _).mono ?_
    rintro e w5 ⟨rfl, hb5⟩
    have hs5 := hb5.size
    try simp only [World.size_alloc, World.size_setCell] at hs5
    have A_5 : w5.heap[w.heap.size]? = some (.cells #[.int .u64 x, .int .u64 y] 24 (0, 0)) := below_at hb5 (by first | omega | (simp; done) | (simp; omega)) (at_of (by apply Exists.intro; refine ⟨?_, ?_⟩; (focus ((repeat (first | (with_reducible assumption) | (with_reducible exact alloc_at _ _) | ((with_reducible apply alloc_at'); (simp; done)) | (with_reducible apply alloc_at_lt) | (with_reducible apply heap_drew_at) | (with_reducible apply heap_drewN_at) | (with_reducible apply heap_setCell_same) | ((with_reducible apply heap_set_ne); (first | omega | (dsimp only; omega) | (simp; done) | (simp; omega))) | (with_reducible apply setRow_at) | ((with_reducible apply setRow_ne); (first | omega | (dsimp only; omega) | (simp; done) | (simp; omega))))))); simp))
    have B_5 : w5.heap[w.heap.size + 1]? = some (.cells #[.int .u64 z, .int .u64 t] 24 (0, 0)) := below_at hb5 (by first | omega | (simp; done) | (simp; omega)) (at_of (by apply Exists.intro; refine ⟨?_, ?_⟩; (focus ((repeat (first | (with_reducible assumption) | (with_reducible exact alloc_at _ _) | ((with_reducible apply alloc_at'); (simp; done)) | (with_reducible apply alloc_at_lt) | (with_reducible apply heap_drew_at) | (with_reducible apply heap_drewN_at) | (with_reducible apply heap_setCell_same) | ((with_reducible apply heap_set_ne); (first | omega | (dsimp only; omega) | (simp; done) | (simp; omega))) | (with_reducible apply setRow_at) | ((with_reducible apply setRow_ne); (first | omega | (dsimp only; omega) | (simp; done) | (simp; omega))))))); simp))
    have R_5 : w5.heap[w.heap.size + 1 + 1]? = some (.cells #[.int .u64 0, .int .u64 0] 24 (0, 0)) := below_at hb5 (by first | omega | (simp; done) | (simp; omega)) (by (repeat (first | (with_reducible assumption) | (with_reducible exact alloc_at _ _) | ((with_reducible apply alloc_at'); (simp; done)) | (with_reducible apply alloc_at_lt) | (with_reducible apply heap_drew_at) | (with_reducible apply heap_drewN_at) | (with_reducible apply heap_setCell_same) | ((with_reducible apply heap_set_ne); (first | omega | (dsimp only; omega) | (simp; done) | (simp; omega))) | (with_reducible apply setRow_at) | ((with_reducible apply setRow_ne); (first | omega | (dsimp only; omega) | (simp; done) | (simp; omega))))))
    have X_5 : w5.heap[xX]? = some (.cells #[.int .u64 0, .int .u64 p1, .int .u64 p2] 63 (0, 0)) := below_at hb5 (by first | omega | (simp; done) | (simp; omega)) (by (repeat (first | (with_reducible assumption) | (with_reducible exact alloc_at _ _) | ((with_reducible apply alloc_at'); (simp; done)) | (with_reducible apply alloc_at_lt) | (with_reducible apply heap_drew_at) | (with_reducible apply heap_drewN_at) | (with_reducible apply heap_setCell_same) | ((with_reducible apply heap_set_ne); (first | omega | (dsimp only; omega) | (simp; done) | (simp; omega))) | (with_reducible apply setRow_at) | ((with_reducible apply setRow_ne); (first | omega | (dsimp only; omega) | (simp; done) | (simp; omega))))))
    have Y_5 : w5.heap[xY]? = some (.cells #[.int .u64 0, .int .u64 q1, .int .u64 q2] 63 (0, 0)) := below_at hb5 (by first | omega | (simp; done) | (simp; omega)) (by (repeat (first | (with_reducible assumption) | (with_reducible exact alloc_at _ _) | ((with_reducible apply alloc_at'); (simp; done)) | (with_reducible apply alloc_at_lt) | (with_reducible apply heap_drew_at) | (with_reducible apply heap_drewN_at) | (with_reducible apply heap_setCell_same) | ((with_reducible apply heap_set_ne); (first | omega | (dsimp only; omega) | (simp; done) | (simp; omega))) | (with_reducible apply setRow_at) | ((with_reducible apply setRow_ne); (first | omega | (dsimp only; omega) | (simp; done) | (simp; omega))))))
    have B5 : Below w.heap.size w w5 := Below.trans (by repeat (first | with_reducible assumption | with_reducible exact Below.refl _ _ | with_reducible refine Below.drew ?_ | with_reducible refine below_drewN ?_ _ | with_reducible refine below_alloc ?_ _ | with_reducible refine Below.alloc ?_ (by first | omega | (simp; done) | (simp; omega)) _ | with_reducible refine Below.setCell ?_ (by first | omega | (simp; done) | (simp; omega)) _ | with_reducible refine below_setRow ?_ (by first | omega | (simp; done) | (simp; omega)) _)) (hb5.mono (by first | omega | (simp; done) | (simp; omega)))
    clear hb5 A_4 B_4 R_4 X_4 Y_4
    clear Ac0 Ac1 Acf
    clear Bc0 Bc1 Bcf
    clear Rc0 Rc1 Rcf
    clear Xc0 Xc1 Xc2 Xcf
    clear Yc0 Yc1 Yc2 Ycf
    have Ac0 : w5.cell? ⟨w.heap.size, 0, none⟩ = some (.int .u64 x) := (blk_cell A_5 0).trans rfl
    have Ac1 : w5.cell? ⟨w.heap.size, 1, none⟩ = some (.int .u64 y) := (blk_cell A_5 1).trans rfl
    have Acf := blk_free A_5
    have Bc0 : w5.cell? ⟨w.heap.size + 1, 0, none⟩ = some (.int .u64 z) := (blk_cell B_5 0).trans rfl
    have Bc1 : w5.cell? ⟨w.heap.size + 1, 1, none⟩ = some (.int .u64 t) := (blk_cell B_5 1).trans rfl
    have Bcf := blk_free B_5
    have Rc0 : w5.cell? ⟨w.heap.size + 1 + 1, 0, none⟩ = some (.int .u64 0) := (blk_cell R_5 0).trans rfl
    have Rc1 : w5.cell? ⟨w.heap.size + 1 + 1, 1, none⟩ = some (.int .u64 0) := (blk_cell R_5 1).trans rfl
    have Rcf := blk_free R_5
    have Xc0 : w5.cell? ⟨xX, 0, none⟩ = some (.int .u64 0) := (blk_cell X_5 0).trans rfl
    have Xc1 : w5.cell? ⟨xX, 1, none⟩ = some (.int .u64 p1) := (blk_cell X_5 1).trans rfl
    have Xc2 : w5.cell? ⟨xX, 2, none⟩ = some (.int .u64 p2) := (blk_cell X_5 2).trans rfl
    have Xcf := blk_free X_5
    have Yc0 : w5.cell? ⟨xY, 0, none⟩ = some (.int .u64 0) := (blk_cell Y_5 0).trans rfl
    have Yc1 : w5.cell? ⟨xY, 1, none⟩ = some (.int .u64 q1) := (blk_cell Y_5 1).trans rfl
    have Yc2 : w5.cell? ⟨xY, 2, none⟩ = some (.int .u64 q2) := (blk_cell Y_5 2).trans rfl
    have Ycf := blk_free Y_5
    have Al5 : w.heap.size < w5.heap.size := by omega
    have Bl5 : w.heap.size + 1 < w5.heap.size := by omega
    have Rl5 : w.heap.size + 1 + 1 < w5.heap.size := by omega
    have Xl5 : xX < w5.heap.size := by omega
    have Yl5 : xY < w5.heap.size := by omega
    go_wp2_with fail
    obtain ⟨w6, hw6⟩ : ∃ x : World, x = w5.alloc (.cells #[.int .u64 s0, .int .u64 s1, .int .u64 s2] 63) := ⟨_, rfl⟩
    rw [← hw6]
    have B6 : Below w.heap.size w w6 := by rw [hw6]; exact (by repeat (first | with_reducible assumption | with_reducible exact Below.refl _ _ | with_reducible refine Below.drew ?_ | with_reducible refine below_drewN ?_ _ | with_reducible refine below_alloc ?_ _ | with_reducible refine Below.alloc ?_ (by first | omega | (simp; done) | (simp; omega)) _ | with_reducible refine Below.setCell ?_ (by first | omega | (simp; done) | (simp; omega)) _ | with_reducible refine below_setRow ?_ (by first | omega | (simp; done) | (simp; omega)) _))
    have A_6 : w6.heap[w.heap.size]? = some (.cells #[.int .u64 x, .int .u64 y] 24 (0, 0)) := by rw [hw6]; exact at_of (by apply Exists.intro; refine ⟨?_, ?_⟩; (focus ((repeat (first | (with_reducible assumption) | (with_reducible exact alloc_at _ _) | ((with_reducible apply alloc_at'); (simp; done)) | (with_reducible apply alloc_at_lt) | (with_reducible apply heap_drew_at) | (with_reducible apply heap_drewN_at) | (with_reducible apply heap_setCell_same) | ((with_reducible apply heap_set_ne); (first | omega | (dsimp only; omega) | (simp; done) | (simp; omega))) | (with_reducible apply setRow_at) | ((with_reducible apply setRow_ne); (first | omega | (dsimp only; omega) | (simp; done) | (simp; omega))))))); simp)
    have B_6 : w6.heap[w.heap.size + 1]? = some (.cells #[.int .u64 z, .int .u64 t] 24 (0, 0)) := by rw [hw6]; exact at_of (by apply Exists.intro; refine ⟨?_, ?_⟩; (focus ((repeat (first | (with_reducible assumption) | (with_reducible exact alloc_at _ _) | ((with_reducible apply alloc_at'); (simp; done)) | (with_reducible apply alloc_at_lt) | (with_reducible apply heap_drew_at) | (with_reducible apply heap_drewN_at) | (with_reducible apply heap_setCell_same) | ((with_reducible apply heap_set_ne); (first | omega | (dsimp only; omega) | (simp; done) | (simp; omega))) | (with_reducible apply setRow_at) | ((with_reducible apply setRow_ne); (first | omega | (dsimp only; omega) | (simp; done) | (simp; omega))))))); simp)
    have R_6 : w6.heap[w.heap.size + 1 + 1]? = some (.cells #[.int .u64 0, .int .u64 0] 24 (0, 0)) := by rw [hw6]; exact at_of (by apply Exists.intro; refine ⟨?_, ?_⟩; (focus ((repeat (first | (with_reducible assumption) | (with_reducible exact alloc_at _ _) | ((with_reducible apply alloc_at'); (simp; done)) | (with_reducible apply alloc_at_lt) | (with_reducible apply heap_drew_at) | (with_reducible apply heap_drewN_at) | (with_reducible apply heap_setCell_same) | ((with_reducible apply heap_set_ne); (first | omega | (dsimp only; omega) | (simp; done) | (simp; omega))) | (with_reducible apply setRow_at) | ((with_reducible apply setRow_ne); (first | omega | (dsimp only; omega) | (simp; done) | (simp; omega))))))); simp)
    have X_6 : w6.heap[xX]? = some (.cells #[.int .u64 0, .int .u64 p1, .int .u64 p2] 63 (0, 0)) := by rw [hw6]; exact at_of (by apply Exists.intro; refine ⟨?_, ?_⟩; (focus ((repeat (first | (with_reducible assumption) | (with_reducible exact alloc_at _ _) | ((with_reducible apply alloc_at'); (simp; done)) | (with_reducible apply alloc_at_lt) | (with_reducible apply heap_drew_at) | (with_reducible apply heap_drewN_at) | (with_reducible apply heap_setCell_same) | ((with_reducible apply heap_set_ne); (first | omega | (dsimp only; omega) | (simp; done) | (simp; omega))) | (with_reducible apply setRow_at) | ((with_reducible apply setRow_ne); (first | omega | (dsimp only; omega) | (simp; done) | (simp; omega))))))); simp)
    have Y_6 : w6.heap[xY]? = some (.cells #[.int .u64 0, .int .u64 q1, .int .u64 q2] 63 (0, 0)) := by rw [hw6]; exact at_of (by apply Exists.intro; refine ⟨?_, ?_⟩; (focus ((repeat (first | (with_reducible assumption) | (with_reducible exact alloc_at _ _) | ((with_reducible apply alloc_at'); (simp; done)) | (with_reducible apply alloc_at_lt) | (with_reducible apply heap_drew_at) | (with_reducible apply heap_drewN_at) | (with_reducible apply heap_setCell_same) | ((with_reducible apply heap_set_ne); (first | omega | (dsimp only; omega) | (simp; done) | (simp; omega))) | (with_reducible apply setRow_at) | ((with_reducible apply setRow_ne); (first | omega | (dsimp only; omega) | (simp; done) | (simp; omega))))))); simp)
    have N_6 : w6.heap[w5.heap.size]? = some (.cells #[.int .u64 s0, .int .u64 s1, .int .u64 s2] 63 (0, 0)) := by rw [hw6]; exact at_of (by apply Exists.intro; refine ⟨?_, ?_⟩; (focus ((repeat (first | (with_reducible assumption) | (with_reducible exact alloc_at _ _) | ((with_reducible apply alloc_at'); (simp; done)) | (with_reducible apply alloc_at_lt) | (with_reducible apply heap_drew_at) | (with_reducible apply heap_drewN_at) | (with_reducible apply heap_setCell_same) | ((with_reducible apply heap_set_ne); (first | omega | (dsimp only; omega) | (simp; done) | (simp; omega))) | (with_reducible apply setRow_at) | ((with_reducible apply setRow_ne); (first | omega | (dsimp only; omega) | (simp; done) | (simp; omega))))))); simp)
    clear hw6
    have Ac0 : w6.cell? ⟨w.heap.size, 0, none⟩ = some (.int .u64 x) := (blk_cell A_6 0).trans rfl
    have Ac1 : w6.cell? ⟨w.heap.size, 1, none⟩ = some (.int .u64 y) := (blk_cell A_6 1).trans rfl
    have Acf := blk_free A_6
    have Bc0 : w6.cell? ⟨w.heap.size + 1, 0, none⟩ = some (.int .u64 z) := (blk_cell B_6 0).trans rfl
    have Bc1 : w6.cell? ⟨w.heap.size + 1, 1, none⟩ = some (.int .u64 t) := (blk_cell B_6 1).trans rfl
    have Bcf := blk_free B_6
    have Rc0 : w6.cell? ⟨w.heap.size + 1 + 1, 0, none⟩ = some (.int .u64 0) := (blk_cell R_6 0).trans rfl
    have Rc1 : w6.cell? ⟨w.heap.size + 1 + 1, 1, none⟩ = some (.int .u64 0) := (blk_cell R_6 1).trans rfl
    have Rcf := blk_free R_6
    have Xc0 : w6.cell? ⟨xX, 0, none⟩ = some (.int .u64 0) := (blk_cell X_6 0).trans rfl
    have Xc1 : w6.cell? ⟨xX, 1, none⟩ = some (.int .u64 p1) := (blk_cell X_6 1).trans rfl
    have Xc2 : w6.cell? ⟨xX, 2, none⟩ = some (.int .u64 p2) := (blk_cell X_6 2).trans rfl
    have Xcf := blk_free X_6
    have Yc0 : w6.cell? ⟨xY, 0, none⟩ = some (.int .u64 0) := (blk_cell Y_6 0).trans rfl
    have Yc1 : w6.cell? ⟨xY, 1, none⟩ = some (.int .u64 q1) := (blk_cell Y_6 1).trans rfl
    have Yc2 : w6.cell? ⟨xY, 2, none⟩ = some (.int .u64 q2) := (blk_cell Y_6 2).trans rfl
    have Ycf := blk_free Y_6
    have Nc0 : w6.cell? ⟨w5.heap.size, 0, none⟩ = some (.int .u64 s0) := (blk_cell N_6 0).trans rfl
    have Nc1 : w6.cell? ⟨w5.heap.size, 1, none⟩ = some (.int .u64 s1) := (blk_cell N_6 1).trans rfl
    have Nc2 : w6.cell? ⟨w5.heap.size, 2, none⟩ = some (.int .u64 s2) := (blk_cell N_6 2).trans rfl
    have Ncf := blk_free N_6
    have Al6 : w.heap.size < w6.heap.size := lt_of_at A_6
    have Bl6 : w.heap.size + 1 < w6.heap.size := lt_of_at B_6
    have Rl6 : w.heap.size + 1 + 1 < w6.heap.size := lt_of_at R_6
    have Xl6 : xX < w6.heap.size := lt_of_at X_6
    have Yl6 : xY < w6.heap.size := lt_of_at Y_6
    have Nl6 : w5.heap.size < w6.heap.size := lt_of_at N_6
    have Ae0 : ∀ lx_ : Lat w6.heap.size w6, lx_.w.cell? ⟨w.heap.size, 0, none⟩ = some (.int .u64 x) := fun lx_ => by rw [lx_.cell _ _ Al6]; exact Ac0
    have Ae1 : ∀ lx_ : Lat w6.heap.size w6, lx_.w.cell? ⟨w.heap.size, 1, none⟩ = some (.int .u64 y) := fun lx_ => by rw [lx_.cell _ _ Al6]; exact Ac1
    have Be0 : ∀ lx_ : Lat w6.heap.size w6, lx_.w.cell? ⟨w.heap.size + 1, 0, none⟩ = some (.int .u64 z) := fun lx_ => by rw [lx_.cell _ _ Bl6]; exact Bc0
    have Be1 : ∀ lx_ : Lat w6.heap.size w6, lx_.w.cell? ⟨w.heap.size + 1, 1, none⟩ = some (.int .u64 t) := fun lx_ => by rw [lx_.cell _ _ Bl6]; exact Bc1
    have Ne0 : ∀ lx_ : Lat w6.heap.size w6, lx_.w.cell? ⟨w5.heap.size, 0, none⟩ = some (.int .u64 s0) := fun lx_ => by rw [lx_.cell _ _ Nl6]; exact Nc0
    have Ne1 : ∀ lx_ : Lat w6.heap.size w6, lx_.w.cell? ⟨w5.heap.size, 1, none⟩ = some (.int .u64 s1) := fun lx_ => by rw [lx_.cell _ _ Nl6]; exact Nc1
    have Ne2 : ∀ lx_ : Lat w6.heap.size w6, lx_.w.cell? ⟨w5.heap.size, 2, none⟩ = some (.int .u64 s2) := fun lx_ => by rw [lx_.cell _ _ Nl6]; exact Nc2
    refine wp_region_lat_tail 10 (by kernel_rfl) (by kernel_rfl) ?_
    simp only [List.take_succ_cons, List.take_zero, List.drop_succ_cons, List.drop_zero]
    repeat (go_big_quiet_step (first | (go_at_call 38; exact lat_of (Nat.le_refl _) (HO.out _))))
    refine wpQuiet_nil ?_
    rintro w7 ⟨x7, hx7⟩
    have hb7 := x7.h
    rw [← hx7] at hb7
    clear hx7 x7 Ae0 Ae1 Be0 Be1 Ne0 Ne1 Ne2
    have hs7 := hb7.size
    try simp only [World.size_alloc, World.size_setCell] at hs7
    have A_7 : w7.heap[w.heap.size]? = some (.cells #[.int .u64 x, .int .u64 y] 24 (0, 0)) := below_at hb7 (by first | omega | (simp; done) | (simp; omega)) (by (repeat (first | (with_reducible assumption) | (with_reducible exact alloc_at _ _) | ((with_reducible apply alloc_at'); (simp; done)) | (with_reducible apply alloc_at_lt) | (with_reducible apply heap_drew_at) | (with_reducible apply heap_drewN_at) | (with_reducible apply heap_setCell_same) | ((with_reducible apply heap_set_ne); (first | omega | (dsimp only; omega) | (simp; done) | (simp; omega))) | (with_reducible apply setRow_at) | ((with_reducible apply setRow_ne); (first | omega | (dsimp only; omega) | (simp; done) | (simp; omega))))))
    have B_7 : w7.heap[w.heap.size + 1]? = some (.cells #[.int .u64 z, .int .u64 t] 24 (0, 0)) := below_at hb7 (by first | omega | (simp; done) | (simp; omega)) (by (repeat (first | (with_reducible assumption) | (with_reducible exact alloc_at _ _) | ((with_reducible apply alloc_at'); (simp; done)) | (with_reducible apply alloc_at_lt) | (with_reducible apply heap_drew_at) | (with_reducible apply heap_drewN_at) | (with_reducible apply heap_setCell_same) | ((with_reducible apply heap_set_ne); (first | omega | (dsimp only; omega) | (simp; done) | (simp; omega))) | (with_reducible apply setRow_at) | ((with_reducible apply setRow_ne); (first | omega | (dsimp only; omega) | (simp; done) | (simp; omega))))))
    have R_7 : w7.heap[w.heap.size + 1 + 1]? = some (.cells #[.int .u64 0, .int .u64 0] 24 (0, 0)) := below_at hb7 (by first | omega | (simp; done) | (simp; omega)) (by (repeat (first | (with_reducible assumption) | (with_reducible exact alloc_at _ _) | ((with_reducible apply alloc_at'); (simp; done)) | (with_reducible apply alloc_at_lt) | (with_reducible apply heap_drew_at) | (with_reducible apply heap_drewN_at) | (with_reducible apply heap_setCell_same) | ((with_reducible apply heap_set_ne); (first | omega | (dsimp only; omega) | (simp; done) | (simp; omega))) | (with_reducible apply setRow_at) | ((with_reducible apply setRow_ne); (first | omega | (dsimp only; omega) | (simp; done) | (simp; omega))))))
    have X_7 : w7.heap[xX]? = some (.cells #[.int .u64 0, .int .u64 p1, .int .u64 p2] 63 (0, 0)) := below_at hb7 (by first | omega | (simp; done) | (simp; omega)) (by (repeat (first | (with_reducible assumption) | (with_reducible exact alloc_at _ _) | ((with_reducible apply alloc_at'); (simp; done)) | (with_reducible apply alloc_at_lt) | (with_reducible apply heap_drew_at) | (with_reducible apply heap_drewN_at) | (with_reducible apply heap_setCell_same) | ((with_reducible apply heap_set_ne); (first | omega | (dsimp only; omega) | (simp; done) | (simp; omega))) | (with_reducible apply setRow_at) | ((with_reducible apply setRow_ne); (first | omega | (dsimp only; omega) | (simp; done) | (simp; omega))))))
    have Y_7 : w7.heap[xY]? = some (.cells #[.int .u64 0, .int .u64 q1, .int .u64 q2] 63 (0, 0)) := below_at hb7 (by first | omega | (simp; done) | (simp; omega)) (by (repeat (first | (with_reducible assumption) | (with_reducible exact alloc_at _ _) | ((with_reducible apply alloc_at'); (simp; done)) | (with_reducible apply alloc_at_lt) | (with_reducible apply heap_drew_at) | (with_reducible apply heap_drewN_at) | (with_reducible apply heap_setCell_same) | ((with_reducible apply heap_set_ne); (first | omega | (dsimp only; omega) | (simp; done) | (simp; omega))) | (with_reducible apply setRow_at) | ((with_reducible apply setRow_ne); (first | omega | (dsimp only; omega) | (simp; done) | (simp; omega))))))
    have N_7 : w7.heap[w5.heap.size]? = some (.cells #[.int .u64 s0, .int .u64 s1, .int .u64 s2] 63 (0, 0)) := below_at hb7 (by first | omega | (simp; done) | (simp; omega)) (by (repeat (first | (with_reducible assumption) | (with_reducible exact alloc_at _ _) | ((with_reducible apply alloc_at'); (simp; done)) | (with_reducible apply alloc_at_lt) | (with_reducible apply heap_drew_at) | (with_reducible apply heap_drewN_at) | (with_reducible apply heap_setCell_same) | ((with_reducible apply heap_set_ne); (first | omega | (dsimp only; omega) | (simp; done) | (simp; omega))) | (with_reducible apply setRow_at) | ((with_reducible apply setRow_ne); (first | omega | (dsimp only; omega) | (simp; done) | (simp; omega))))))
    have B7 : Below w.heap.size w w7 := Below.trans (by repeat (first | with_reducible assumption | with_reducible exact Below.refl _ _ | with_reducible refine Below.drew ?_ | with_reducible refine below_drewN ?_ _ | with_reducible refine below_alloc ?_ _ | with_reducible refine Below.alloc ?_ (by first | omega | (simp; done) | (simp; omega)) _ | with_reducible refine Below.setCell ?_ (by first | omega | (simp; done) | (simp; omega)) _ | with_reducible refine below_setRow ?_ (by first | omega | (simp; done) | (simp; omega)) _)) (hb7.mono (by first | omega | (simp; done) | (simp; omega)))
    clear hb7 A_6 B_6 R_6 X_6 Y_6 N_6
    clear Ac0 Ac1 Acf
    clear Bc0 Bc1 Bcf
    clear Rc0 Rc1 Rcf
    clear Xc0 Xc1 Xc2 Xcf
    clear Yc0 Yc1 Yc2 Ycf
    clear Nc0 Nc1 Nc2 Ncf
    have Ac0 : w7.cell? ⟨w.heap.size, 0, none⟩ = some (.int .u64 x) := (blk_cell A_7 0).trans rfl
    have Ac1 : w7.cell? ⟨w.heap.size, 1, none⟩ = some (.int .u64 y) := (blk_cell A_7 1).trans rfl
    have Acf := blk_free A_7
    have Bc0 : w7.cell? ⟨w.heap.size + 1, 0, none⟩ = some (.int .u64 z) := (blk_cell B_7 0).trans rfl
    have Bc1 : w7.cell? ⟨w.heap.size + 1, 1, none⟩ = some (.int .u64 t) := (blk_cell B_7 1).trans rfl
    have Bcf := blk_free B_7
    have Rc0 : w7.cell? ⟨w.heap.size + 1 + 1, 0, none⟩ = some (.int .u64 0) := (blk_cell R_7 0).trans rfl
    have Rc1 : w7.cell? ⟨w.heap.size + 1 + 1, 1, none⟩ = some (.int .u64 0) := (blk_cell R_7 1).trans rfl
    have Rcf := blk_free R_7
    have Xc0 : w7.cell? ⟨xX, 0, none⟩ = some (.int .u64 0) := (blk_cell X_7 0).trans rfl
    have Xc1 : w7.cell? ⟨xX, 1, none⟩ = some (.int .u64 p1) := (blk_cell X_7 1).trans rfl
    have Xc2 : w7.cell? ⟨xX, 2, none⟩ = some (.int .u64 p2) := (blk_cell X_7 2).trans rfl
    have Xcf := blk_free X_7
    have Yc0 : w7.cell? ⟨xY, 0, none⟩ = some (.int .u64 0) := (blk_cell Y_7 0).trans rfl
    have Yc1 : w7.cell? ⟨xY, 1, none⟩ = some (.int .u64 q1) := (blk_cell Y_7 1).trans rfl
    have Yc2 : w7.cell? ⟨xY, 2, none⟩ = some (.int .u64 q2) := (blk_cell Y_7 2).trans rfl
    have Ycf := blk_free Y_7
    have Nc0 : w7.cell? ⟨w5.heap.size, 0, none⟩ = some (.int .u64 s0) := (blk_cell N_7 0).trans rfl
    have Nc1 : w7.cell? ⟨w5.heap.size, 1, none⟩ = some (.int .u64 s1) := (blk_cell N_7 1).trans rfl
    have Nc2 : w7.cell? ⟨w5.heap.size, 2, none⟩ = some (.int .u64 s2) := (blk_cell N_7 2).trans rfl
    have Ncf := blk_free N_7
    have Al7 : w.heap.size < w7.heap.size := by omega
    have Bl7 : w.heap.size + 1 < w7.heap.size := by omega
    have Rl7 : w.heap.size + 1 + 1 < w7.heap.size := by omega
    have Xl7 : xX < w7.heap.size := by omega
    have Yl7 : xY < w7.heap.size := by omega
    have Nl7 : w5.heap.size < w7.heap.size := by omega
    go_wp2
    refine ret_row2 rfl (w.heap.size + 1 + 1) #[.int .u64 r0, .int .u64 r1] 24 _ rfl Try.underlying24 rfl infoR rfl (by apply Exists.intro; refine ⟨?_, ?_⟩; (focus ((repeat (first | (with_reducible assumption) | (with_reducible exact alloc_at _ _) | ((with_reducible apply alloc_at'); (simp; done)) | (with_reducible apply alloc_at_lt) | (with_reducible apply heap_drew_at) | (with_reducible apply heap_drewN_at) | (with_reducible apply heap_setCell_same) | ((with_reducible apply heap_set_ne); (first | omega | (dsimp only; omega) | (simp; done) | (simp; omega))) | (with_reducible apply setRow_at) | ((with_reducible apply setRow_ne); (first | omega | (dsimp only; omega) | (simp; done) | (simp; omega))))))); simp) ⟨rfl, (by repeat (first | with_reducible assumption | with_reducible exact Below.refl _ _ | with_reducible refine Below.drew ?_ | with_reducible refine below_drewN ?_ _ | with_reducible refine below_alloc ?_ _ | with_reducible refine Below.alloc ?_ (by first | omega | (simp; done) | (simp; omega)) _ | with_reducible refine Below.setCell ?_ (by first | omega | (simp; done) | (simp; omega)) _ | with_reducible refine below_setRow ?_ (by first | omega | (simp; done) | (simp; omega)) _))⟩
set_option maxRecDepth 100000 in
set_option maxHeartbeats 4000000 in
theorem sum_s (an ad bn bd x y z t g t' y' p1 p2 q1 q2 s0 s1 s2 m0 m1 m2 r0 r1 er : Int) (w : World) (by0 : 0 ≤ y) (bt0 : 0 ≤ t) (bg : 1 ≤ g) (hne : (g == 0) = false)
    (H1 : Hid (∀ W, Calls Try.prog 21 #[.int .u64 an, .int .u64 ad] W fun e w' => e = .returned (.agg #[.int .u64 x, .int .u64 y]) ∧ Below W.heap.size W w')) (H2 : Hid (∀ W, Calls Try.prog 21 #[.int .u64 bn, .int .u64 bd] W fun e w' => e = .returned (.agg #[.int .u64 z, .int .u64 t]) ∧ Below W.heap.size W w'))
    (HG : Hid (∀ W, Calls Try.prog 32 #[.int .u64 y, .int .u64 t] W fun e w' => e = .returned (.int .u64 g) ∧ Below W.heap.size W w')) (E1 : Hid (IntKind.u64.wrap (t.tdiv g) = t')) (E2 : Hid (IntKind.u64.wrap (y.tdiv g) = y')) (E3 : Hid (t / g = t')) (E4 : Hid (y / g = y')) (bt1 : 0 ≤ t' ∧ t' ≤ 18446744073709551615) (by1 : 0 ≤ y' ∧ y' ≤ 18446744073709551615)
    (HT1 : Hid (∀ W, Calls Try.prog 35 #[.int .u64 x, .int .u64 t'] W fun e w' => e = .returned (.agg #[.int .u64 0, .int .u64 p1, .int .u64 p2]) ∧ Below W.heap.size W w')) (HT2 : Hid (∀ W, Calls Try.prog 35 #[.int .u64 z, .int .u64 y'] W fun e w' => e = .returned (.agg #[.int .u64 0, .int .u64 q1, .int .u64 q2]) ∧ Below W.heap.size W w'))
    (HP : Hid (∀ W, Calls Try.prog 36 #[.agg #[.int .u64 0, .int .u64 p1, .int .u64 p2], .agg #[.int .u64 0, .int .u64 q1, .int .u64 q2]] W fun e w' => e = .returned (.agg #[.int .u64 s0, .int .u64 s1, .int .u64 s2]) ∧ Below W.heap.size W w')) (HM : Hid (∀ W, Calls Try.prog 37 #[.agg #[.int .u64 0, .int .u64 p1, .int .u64 p2], .agg #[.int .u64 0, .int .u64 q1, .int .u64 q2]] W fun e w' => e = .returned (.agg #[.int .u64 m0, .int .u64 m1, .int .u64 m2]) ∧ Below W.heap.size W w')) (HO : Hid (∀ W, Calls Try.prog 38 #[.agg #[.int .u64 m0, .int .u64 m1, .int .u64 m2], .int .u64 y, .int .u64 t'] W fun e w' => e = .returned (.tuple #[.agg #[.int .u64 r0, .int .u64 r1], .int .i64 er]) ∧ Below W.heap.size W w')) :
    Calls Try.prog 28 #[.agg #[.int .u64 an, .int .u64 ad], .agg #[.int .u64 bn, .int .u64 bd], .bool true] w fun e w' => e = .returned (.tuple #[.agg #[.int .u64 r0, .int .u64 r1], .int .i64 er]) ∧ Below w.heap.size w w' := by
  go_enter Try.func28, Try.ntmps28
  go_wp2_with fail
  obtain ⟨w1, hw1⟩ : ∃ x : World, x = ((w.alloc (.cells #[.int .u64 an, .int .u64 ad] 24)).alloc (.cells #[.int .u64 bn, .int .u64 bd] 24)).alloc (.cells #[.int .u64 0, .int .u64 0] 24) := ⟨_, rfl⟩
  rw [← hw1]
  have B1 : Below w.heap.size w w1 := by rw [hw1]; exact (by repeat (first | with_reducible assumption | with_reducible exact Below.refl _ _ | with_reducible refine Below.drew ?_ | with_reducible refine below_drewN ?_ _ | with_reducible refine below_alloc ?_ _ | with_reducible refine Below.alloc ?_ (by first | omega | (simp; done) | (simp; omega)) _ | with_reducible refine Below.setCell ?_ (by first | omega | (simp; done) | (simp; omega)) _ | with_reducible refine below_setRow ?_ (by first | omega | (simp; done) | (simp; omega)) _))
  have A_1 : w1.heap[w.heap.size]? = some (.cells #[.int .u64 an, .int .u64 ad] 24 (0, 0)) := by rw [hw1]; exact at_of (by apply Exists.intro; refine ⟨?_, ?_⟩; (focus ((repeat (first | (with_reducible assumption) | (with_reducible exact alloc_at _ _) | ((with_reducible apply alloc_at'); (simp; done)) | (with_reducible apply alloc_at_lt) | (with_reducible apply heap_drew_at) | (with_reducible apply heap_drewN_at) | (with_reducible apply heap_setCell_same) | ((with_reducible apply heap_set_ne); (first | omega | (dsimp only; omega) | (simp; done) | (simp; omega))) | (with_reducible apply setRow_at) | ((with_reducible apply setRow_ne); (first | omega | (dsimp only; omega) | (simp; done) | (simp; omega))))))); simp)
  have B_1 : w1.heap[w.heap.size + 1]? = some (.cells #[.int .u64 bn, .int .u64 bd] 24 (0, 0)) := by rw [hw1]; exact at_of (by apply Exists.intro; refine ⟨?_, ?_⟩; (focus ((repeat (first | (with_reducible assumption) | (with_reducible exact alloc_at _ _) | ((with_reducible apply alloc_at'); (simp; done)) | (with_reducible apply alloc_at_lt) | (with_reducible apply heap_drew_at) | (with_reducible apply heap_drewN_at) | (with_reducible apply heap_setCell_same) | ((with_reducible apply heap_set_ne); (first | omega | (dsimp only; omega) | (simp; done) | (simp; omega))) | (with_reducible apply setRow_at) | ((with_reducible apply setRow_ne); (first | omega | (dsimp only; omega) | (simp; done) | (simp; omega))))))); simp)
  have R_1 : w1.heap[w.heap.size + 1 + 1]? = some (.cells #[.int .u64 0, .int .u64 0] 24 (0, 0)) := by rw [hw1]; exact at_of (by apply Exists.intro; refine ⟨?_, ?_⟩; (focus ((repeat (first | (with_reducible assumption) | (with_reducible exact alloc_at _ _) | ((with_reducible apply alloc_at'); (simp; done)) | (with_reducible apply alloc_at_lt) | (with_reducible apply heap_drew_at) | (with_reducible apply heap_drewN_at) | (with_reducible apply heap_setCell_same) | ((with_reducible apply heap_set_ne); (first | omega | (dsimp only; omega) | (simp; done) | (simp; omega))) | (with_reducible apply setRow_at) | ((with_reducible apply setRow_ne); (first | omega | (dsimp only; omega) | (simp; done) | (simp; omega))))))); simp)
  clear hw1
  have Ac0 : w1.cell? ⟨w.heap.size, 0, none⟩ = some (.int .u64 an) := (blk_cell A_1 0).trans rfl
  have Ac1 : w1.cell? ⟨w.heap.size, 1, none⟩ = some (.int .u64 ad) := (blk_cell A_1 1).trans rfl
  have Acf := blk_free A_1
  have Bc0 : w1.cell? ⟨w.heap.size + 1, 0, none⟩ = some (.int .u64 bn) := (blk_cell B_1 0).trans rfl
  have Bc1 : w1.cell? ⟨w.heap.size + 1, 1, none⟩ = some (.int .u64 bd) := (blk_cell B_1 1).trans rfl
  have Bcf := blk_free B_1
  have Rc0 : w1.cell? ⟨w.heap.size + 1 + 1, 0, none⟩ = some (.int .u64 0) := (blk_cell R_1 0).trans rfl
  have Rc1 : w1.cell? ⟨w.heap.size + 1 + 1, 1, none⟩ = some (.int .u64 0) := (blk_cell R_1 1).trans rfl
  have Rcf := blk_free R_1
  have Al1 : w.heap.size < w1.heap.size := lt_of_at A_1
  have Bl1 : w.heap.size + 1 < w1.heap.size := lt_of_at B_1
  have Rl1 : w.heap.size + 1 + 1 < w1.heap.size := lt_of_at R_1
  have Ae0 : ∀ lx_ : Lat w1.heap.size w1, lx_.w.cell? ⟨w.heap.size, 0, none⟩ = some (.int .u64 an) := fun lx_ => by rw [lx_.cell _ _ Al1]; exact Ac0
  have Ae1 : ∀ lx_ : Lat w1.heap.size w1, lx_.w.cell? ⟨w.heap.size, 1, none⟩ = some (.int .u64 ad) := fun lx_ => by rw [lx_.cell _ _ Al1]; exact Ac1
  have Be0 : ∀ lx_ : Lat w1.heap.size w1, lx_.w.cell? ⟨w.heap.size + 1, 0, none⟩ = some (.int .u64 bn) := fun lx_ => by rw [lx_.cell _ _ Bl1]; exact Bc0
  have Be1 : ∀ lx_ : Lat w1.heap.size w1, lx_.w.cell? ⟨w.heap.size + 1, 1, none⟩ = some (.int .u64 bd) := fun lx_ => by rw [lx_.cell _ _ Bl1]; exact Bc1
  refine wp_region_lat_tail 10 (by kernel_rfl) (by kernel_rfl) ?_
  simp only [List.take_succ_cons, List.take_zero, List.drop_succ_cons, List.drop_zero]
  repeat (go_big_quiet_step (first | (go_at_call_of 21 (Value.int IntKind.u64 an); exact lat_of (Nat.le_refl _) (H1.out _)) | (go_at_call_of 21 (Value.int IntKind.u64 bn); exact lat_of (Nat.le_refl _) (H2.out _))))
  refine wpQuiet_nil ?_
  rintro w2 ⟨x2, hx2⟩
  have hb2 := x2.h
  rw [← hx2] at hb2
  clear hx2 x2 Ae0 Ae1 Be0 Be1
  have hs2 := hb2.size
  try simp only [World.size_alloc, World.size_setCell] at hs2
  have A_2 : w2.heap[w.heap.size]? = some (.cells #[.int .u64 an, .int .u64 ad] 24 (0, 0)) := below_at hb2 (by first | omega | (simp; done) | (simp; omega)) (by (repeat (first | (with_reducible assumption) | (with_reducible exact alloc_at _ _) | ((with_reducible apply alloc_at'); (simp; done)) | (with_reducible apply alloc_at_lt) | (with_reducible apply heap_drew_at) | (with_reducible apply heap_drewN_at) | (with_reducible apply heap_setCell_same) | ((with_reducible apply heap_set_ne); (first | omega | (dsimp only; omega) | (simp; done) | (simp; omega))) | (with_reducible apply setRow_at) | ((with_reducible apply setRow_ne); (first | omega | (dsimp only; omega) | (simp; done) | (simp; omega))))))
  have B_2 : w2.heap[w.heap.size + 1]? = some (.cells #[.int .u64 bn, .int .u64 bd] 24 (0, 0)) := below_at hb2 (by first | omega | (simp; done) | (simp; omega)) (by (repeat (first | (with_reducible assumption) | (with_reducible exact alloc_at _ _) | ((with_reducible apply alloc_at'); (simp; done)) | (with_reducible apply alloc_at_lt) | (with_reducible apply heap_drew_at) | (with_reducible apply heap_drewN_at) | (with_reducible apply heap_setCell_same) | ((with_reducible apply heap_set_ne); (first | omega | (dsimp only; omega) | (simp; done) | (simp; omega))) | (with_reducible apply setRow_at) | ((with_reducible apply setRow_ne); (first | omega | (dsimp only; omega) | (simp; done) | (simp; omega))))))
  have R_2 : w2.heap[w.heap.size + 1 + 1]? = some (.cells #[.int .u64 0, .int .u64 0] 24 (0, 0)) := below_at hb2 (by first | omega | (simp; done) | (simp; omega)) (by (repeat (first | (with_reducible assumption) | (with_reducible exact alloc_at _ _) | ((with_reducible apply alloc_at'); (simp; done)) | (with_reducible apply alloc_at_lt) | (with_reducible apply heap_drew_at) | (with_reducible apply heap_drewN_at) | (with_reducible apply heap_setCell_same) | ((with_reducible apply heap_set_ne); (first | omega | (dsimp only; omega) | (simp; done) | (simp; omega))) | (with_reducible apply setRow_at) | ((with_reducible apply setRow_ne); (first | omega | (dsimp only; omega) | (simp; done) | (simp; omega))))))
  have B2 : Below w.heap.size w w2 := Below.trans (by repeat (first | with_reducible assumption | with_reducible exact Below.refl _ _ | with_reducible refine Below.drew ?_ | with_reducible refine below_drewN ?_ _ | with_reducible refine below_alloc ?_ _ | with_reducible refine Below.alloc ?_ (by first | omega | (simp; done) | (simp; omega)) _ | with_reducible refine Below.setCell ?_ (by first | omega | (simp; done) | (simp; omega)) _ | with_reducible refine below_setRow ?_ (by first | omega | (simp; done) | (simp; omega)) _)) (hb2.mono (by first | omega | (simp; done) | (simp; omega)))
  clear hb2 A_1 B_1 R_1
  clear Ac0 Ac1 Acf
  clear Bc0 Bc1 Bcf
  clear Rc0 Rc1 Rcf
  have Ac0 : w2.cell? ⟨w.heap.size, 0, none⟩ = some (.int .u64 an) := (blk_cell A_2 0).trans rfl
  have Ac1 : w2.cell? ⟨w.heap.size, 1, none⟩ = some (.int .u64 ad) := (blk_cell A_2 1).trans rfl
  have Acf := blk_free A_2
  have Bc0 : w2.cell? ⟨w.heap.size + 1, 0, none⟩ = some (.int .u64 bn) := (blk_cell B_2 0).trans rfl
  have Bc1 : w2.cell? ⟨w.heap.size + 1, 1, none⟩ = some (.int .u64 bd) := (blk_cell B_2 1).trans rfl
  have Bcf := blk_free B_2
  have Rc0 : w2.cell? ⟨w.heap.size + 1 + 1, 0, none⟩ = some (.int .u64 0) := (blk_cell R_2 0).trans rfl
  have Rc1 : w2.cell? ⟨w.heap.size + 1 + 1, 1, none⟩ = some (.int .u64 0) := (blk_cell R_2 1).trans rfl
  have Rcf := blk_free R_2
  have Al2 : w.heap.size < w2.heap.size := by omega
  have Bl2 : w.heap.size + 1 < w2.heap.size := by omega
  have Rl2 : w.heap.size + 1 + 1 < w2.heap.size := by omega
  go_wp2_with fail
  refine (HG.out _).mono ?_
  rintro e w3 ⟨rfl, hb3⟩
  have hs3 := hb3.size
  try simp only [World.size_alloc, World.size_setCell] at hs3
  have A_3 : w3.heap[w.heap.size]? = some (.cells #[.int .u64 x, .int .u64 y] 24 (0, 0)) := below_at hb3 (by first | omega | (simp; done) | (simp; omega)) (at_of (by apply Exists.intro; refine ⟨?_, ?_⟩; (focus ((repeat (first | (with_reducible assumption) | (with_reducible exact alloc_at _ _) | ((with_reducible apply alloc_at'); (simp; done)) | (with_reducible apply alloc_at_lt) | (with_reducible apply heap_drew_at) | (with_reducible apply heap_drewN_at) | (with_reducible apply heap_setCell_same) | ((with_reducible apply heap_set_ne); (first | omega | (dsimp only; omega) | (simp; done) | (simp; omega))) | (with_reducible apply setRow_at) | ((with_reducible apply setRow_ne); (first | omega | (dsimp only; omega) | (simp; done) | (simp; omega))))))); simp))
  have B_3 : w3.heap[w.heap.size + 1]? = some (.cells #[.int .u64 z, .int .u64 t] 24 (0, 0)) := below_at hb3 (by first | omega | (simp; done) | (simp; omega)) (at_of (by apply Exists.intro; refine ⟨?_, ?_⟩; (focus ((repeat (first | (with_reducible assumption) | (with_reducible exact alloc_at _ _) | ((with_reducible apply alloc_at'); (simp; done)) | (with_reducible apply alloc_at_lt) | (with_reducible apply heap_drew_at) | (with_reducible apply heap_drewN_at) | (with_reducible apply heap_setCell_same) | ((with_reducible apply heap_set_ne); (first | omega | (dsimp only; omega) | (simp; done) | (simp; omega))) | (with_reducible apply setRow_at) | ((with_reducible apply setRow_ne); (first | omega | (dsimp only; omega) | (simp; done) | (simp; omega))))))); simp))
  have R_3 : w3.heap[w.heap.size + 1 + 1]? = some (.cells #[.int .u64 0, .int .u64 0] 24 (0, 0)) := below_at hb3 (by first | omega | (simp; done) | (simp; omega)) (by (repeat (first | (with_reducible assumption) | (with_reducible exact alloc_at _ _) | ((with_reducible apply alloc_at'); (simp; done)) | (with_reducible apply alloc_at_lt) | (with_reducible apply heap_drew_at) | (with_reducible apply heap_drewN_at) | (with_reducible apply heap_setCell_same) | ((with_reducible apply heap_set_ne); (first | omega | (dsimp only; omega) | (simp; done) | (simp; omega))) | (with_reducible apply setRow_at) | ((with_reducible apply setRow_ne); (first | omega | (dsimp only; omega) | (simp; done) | (simp; omega))))))
  have B3 : Below w.heap.size w w3 := Below.trans (by repeat (first | with_reducible assumption | with_reducible exact Below.refl _ _ | with_reducible refine Below.drew ?_ | with_reducible refine below_drewN ?_ _ | with_reducible refine below_alloc ?_ _ | with_reducible refine Below.alloc ?_ (by first | omega | (simp; done) | (simp; omega)) _ | with_reducible refine Below.setCell ?_ (by first | omega | (simp; done) | (simp; omega)) _ | with_reducible refine below_setRow ?_ (by first | omega | (simp; done) | (simp; omega)) _)) (hb3.mono (by first | omega | (simp; done) | (simp; omega)))
  clear hb3 A_2 B_2 R_2
  clear Ac0 Ac1 Acf
  clear Bc0 Bc1 Bcf
  clear Rc0 Rc1 Rcf
  have Ac0 : w3.cell? ⟨w.heap.size, 0, none⟩ = some (.int .u64 x) := (blk_cell A_3 0).trans rfl
  have Ac1 : w3.cell? ⟨w.heap.size, 1, none⟩ = some (.int .u64 y) := (blk_cell A_3 1).trans rfl
  have Acf := blk_free A_3
  have Bc0 : w3.cell? ⟨w.heap.size + 1, 0, none⟩ = some (.int .u64 z) := (blk_cell B_3 0).trans rfl
  have Bc1 : w3.cell? ⟨w.heap.size + 1, 1, none⟩ = some (.int .u64 t) := (blk_cell B_3 1).trans rfl
  have Bcf := blk_free B_3
  have Rc0 : w3.cell? ⟨w.heap.size + 1 + 1, 0, none⟩ = some (.int .u64 0) := (blk_cell R_3 0).trans rfl
  have Rc1 : w3.cell? ⟨w.heap.size + 1 + 1, 1, none⟩ = some (.int .u64 0) := (blk_cell R_3 1).trans rfl
  have Rcf := blk_free R_3
  have Al3 : w.heap.size < w3.heap.size := by omega
  have Bl3 : w.heap.size + 1 < w3.heap.size := by omega
  have Rl3 : w.heap.size + 1 + 1 < w3.heap.size := by omega
  have hq1 := E1.out
  have hq2 := E2.out
  have hq3 := E3.out
  have hq4 := E4.out
  obtain ⟨bt3, bt4⟩ := bt1
  obtain ⟨by3, by4⟩ := by1
  have hne2 : ¬ g = 0 := by omega
  have hne3 : ¬ (0 = g) := by omega
  go_upto_region 3 with fail
  go_cut [9, 10] (fun s9_ s10_ wx => ∃ xX xY : Nat, s9_ = .pointer (some ⟨xX, 0, none⟩) ∧ s10_ = .pointer (some ⟨xY, 0, none⟩) ∧ Below w3.heap.size w3 wx ∧ wx.heap[xX]? = some (.cells #[.int .u64 0, .int .u64 p1, .int .u64 p2] 63 (0, 0)) ∧ wx.heap[xY]? = some (.cells #[.int .u64 0, .int .u64 q1, .int .u64 q2] 63 (0, 0)))
  case first =>
    go_region_held3 (fun w' => Below w3.heap.size w3 w' ∧ (∀ b o, b < w3.heap.size → w'.cell? ⟨b, o, none⟩ = w3.cell? ⟨b, o, none⟩) ∧ ∀ b o, b < w3.heap.size → w'.frozen? ⟨b, o, none⟩ = w3.frozen? ⟨b, o, none⟩) (first | ((try go_split_ands); (try dsimp only); refine same_of ?_; (repeat (first | with_reducible assumption | with_reducible exact Below.refl _ _ | with_reducible refine Below.drew ?_ | with_reducible refine below_drewN ?_ _ | with_reducible refine below_alloc ?_ _ | with_reducible refine Below.alloc ?_ (by first | omega | (simp; done) | (simp; omega)) _ | with_reducible refine Below.setCell ?_ (by first | omega | (simp; done) | (simp; omega)) _ | with_reducible refine below_setRow ?_ (by first | omega | (simp; done) | (simp; omega)) _)); done) | ((try go_split_ands); (try dsimp only); refine same_of ?_; (repeat (first | with_reducible refine below_call ?_ hbT1 | with_reducible refine below_call ?_ hbT2 | with_reducible assumption | with_reducible exact Below.refl _ _ | with_reducible refine Below.drew ?_ | with_reducible refine below_alloc ?_ _ | with_reducible refine Below.setCell ?_ (by (try have qz_hbT1 := hbT1.size); (try simp only [World.size_alloc, World.size_setCell, heap_drew] at qz_hbT1); (try have qz_hbT2 := hbT2.size); (try simp only [World.size_alloc, World.size_setCell, heap_drew] at qz_hbT2); (try (obtain ⟨qy_hbT1, -, -⟩ : Below _ _ wT1 ∧ _ ∧ _ := by assumption; have qx_hbT1 := qy_hbT1.size)); (try (obtain ⟨qy_hbT2, -, -⟩ : Below _ _ wT2 ∧ _ ∧ _ := by assumption; have qx_hbT2 := qy_hbT2.size)); first | omega | (dsimp only; omega)) _)); done)) (first | (go_at_call_of 35 (Value.int IntKind.u64 x); refine (HT1.out _).mono ?_; rintro e wT1 ⟨rfl, hbT1⟩; obtain ⟨hcT1, hfT1⟩ := bcell hbT1; have hsT1 := hbT1.size; (try simp only [World.size_alloc, World.size_setCell, heap_drew] at hsT1); (try have hlT1_w3_0 : w3.heap.size < wT1.heap.size := by omega); (try have hlT1_w3_1 : w3.heap.size + 1 < wT1.heap.size := by omega)) | (go_at_call_of 35 (Value.int IntKind.u64 z); refine (HT2.out _).mono ?_; rintro e wT2 ⟨rfl, hbT2⟩; obtain ⟨hcT2, hfT2⟩ := bcell hbT2; have hsT2 := hbT2.size; (try simp only [World.size_alloc, World.size_setCell, heap_drew] at hsT2); (try have hlT2_w3_0 : w3.heap.size < wT2.heap.size := by omega); (try have hlT2_w3_1 : w3.heap.size + 1 < wT2.heap.size := by omega); (try have hlT2_wT1_0 : wT1.heap.size < wT2.heap.size := by omega); (try have hlT2_wT1_1 : wT1.heap.size + 1 < wT2.heap.size := by omega)))
    all_goals
      go_wp2_with fail
      obtain ⟨hb98, -, -⟩ : Below w3.heap.size w3 _ ∧ _ ∧ _ := by assumption
      go_meet
      exact ⟨_, _, rfl, rfl, (by repeat (first | with_reducible assumption | with_reducible exact Below.refl _ _ | with_reducible refine Below.drew ?_ | with_reducible refine below_drewN ?_ _ | with_reducible refine below_alloc ?_ _ | with_reducible refine Below.alloc ?_ (by first | omega | (simp; done) | (simp; omega)) _ | with_reducible refine Below.setCell ?_ (by first | omega | (simp; done) | (simp; omega)) _ | with_reducible refine below_setRow ?_ (by first | omega | (simp; done) | (simp; omega)) _)), at_of (by apply Exists.intro; refine ⟨?_, ?_⟩; (focus ((repeat (first | ((with_reducible refine below_at hbT1 ?_ ?_); (focus (first | omega | (dsimp only; omega) | (simp; done) | (simp; omega)))) | ((with_reducible refine below_at hbT2 ?_ ?_); (focus (first | omega | (dsimp only; omega) | (simp; done) | (simp; omega)))) | (with_reducible assumption) | (with_reducible exact alloc_at _ _) | ((with_reducible apply alloc_at'); (simp; done)) | (with_reducible apply alloc_at_lt) | (with_reducible apply heap_drew_at) | (with_reducible apply heap_drewN_at) | (with_reducible apply heap_setCell_same) | ((with_reducible apply heap_set_ne); (first | omega | (dsimp only; omega) | (simp; done) | (simp; omega))) | (with_reducible apply setRow_at) | ((with_reducible apply setRow_ne); (first | omega | (dsimp only; omega) | (simp; done) | (simp; omega))))))); simp), at_of (by apply Exists.intro; refine ⟨?_, ?_⟩; (focus ((repeat (first | ((with_reducible refine below_at hbT1 ?_ ?_); (focus (first | omega | (dsimp only; omega) | (simp; done) | (simp; omega)))) | ((with_reducible refine below_at hbT2 ?_ ?_); (focus (first | omega | (dsimp only; omega) | (simp; done) | (simp; omega)))) | (with_reducible assumption) | (with_reducible exact alloc_at _ _) | ((with_reducible apply alloc_at'); (simp; done)) | (with_reducible apply alloc_at_lt) | (with_reducible apply heap_drew_at) | (with_reducible apply heap_drewN_at) | (with_reducible apply heap_setCell_same) | ((with_reducible apply heap_set_ne); (first | omega | (dsimp only; omega) | (simp; done) | (simp; omega))) | (with_reducible apply setRow_at) | ((with_reducible apply setRow_ne); (first | omega | (dsimp only; omega) | (simp; done) | (simp; omega))))))); simp)⟩
  case rest =>
    obtain ⟨xX, xY, rfl, rfl, hb4, X_4, Y_4⟩ := hcut
    obtain ⟨w4, rfl⟩ : ∃ x : World, x = wc := ⟨_, rfl⟩
    have hs4 := hb4.size
    try simp only [World.size_alloc, World.size_setCell] at hs4
    have A_4 : w4.heap[w.heap.size]? = some (.cells #[.int .u64 x, .int .u64 y] 24 (0, 0)) := below_at hb4 (by first | omega | (simp; done) | (simp; omega)) (at_of (by apply Exists.intro; refine ⟨?_, ?_⟩; (focus ((repeat (first | (with_reducible assumption) | (with_reducible exact alloc_at _ _) | ((with_reducible apply alloc_at'); (simp; done)) | (with_reducible apply alloc_at_lt) | (with_reducible apply heap_drew_at) | (with_reducible apply heap_drewN_at) | (with_reducible apply heap_setCell_same) | ((with_reducible apply heap_set_ne); (first | omega | (dsimp only; omega) | (simp; done) | (simp; omega))) | (with_reducible apply setRow_at) | ((with_reducible apply setRow_ne); (first | omega | (dsimp only; omega) | (simp; done) | (simp; omega))))))); simp))
    have B_4 : w4.heap[w.heap.size + 1]? = some (.cells #[.int .u64 z, .int .u64 t] 24 (0, 0)) := below_at hb4 (by first | omega | (simp; done) | (simp; omega)) (at_of (by apply Exists.intro; refine ⟨?_, ?_⟩; (focus ((repeat (first | (with_reducible assumption) | (with_reducible exact alloc_at _ _) | ((with_reducible apply alloc_at'); (simp; done)) | (with_reducible apply alloc_at_lt) | (with_reducible apply heap_drew_at) | (with_reducible apply heap_drewN_at) | (with_reducible apply heap_setCell_same) | ((with_reducible apply heap_set_ne); (first | omega | (dsimp only; omega) | (simp; done) | (simp; omega))) | (with_reducible apply setRow_at) | ((with_reducible apply setRow_ne); (first | omega | (dsimp only; omega) | (simp; done) | (simp; omega))))))); simp))
    have R_4 : w4.heap[w.heap.size + 1 + 1]? = some (.cells #[.int .u64 0, .int .u64 0] 24 (0, 0)) := below_at hb4 (by first | omega | (simp; done) | (simp; omega)) (by (repeat (first | (with_reducible assumption) | (with_reducible exact alloc_at _ _) | ((with_reducible apply alloc_at'); (simp; done)) | (with_reducible apply alloc_at_lt) | (with_reducible apply heap_drew_at) | (with_reducible apply heap_drewN_at) | (with_reducible apply heap_setCell_same) | ((with_reducible apply heap_set_ne); (first | omega | (dsimp only; omega) | (simp; done) | (simp; omega))) | (with_reducible apply setRow_at) | ((with_reducible apply setRow_ne); (first | omega | (dsimp only; omega) | (simp; done) | (simp; omega))))))
    have B4 : Below w.heap.size w w4 := Below.trans (by repeat (first | with_reducible assumption | with_reducible exact Below.refl _ _ | with_reducible refine Below.drew ?_ | with_reducible refine below_drewN ?_ _ | with_reducible refine below_alloc ?_ _ | with_reducible refine Below.alloc ?_ (by first | omega | (simp; done) | (simp; omega)) _ | with_reducible refine Below.setCell ?_ (by first | omega | (simp; done) | (simp; omega)) _ | with_reducible refine below_setRow ?_ (by first | omega | (simp; done) | (simp; omega)) _)) (hb4.mono (by first | omega | (simp; done) | (simp; omega)))
    clear hb4 A_3 B_3 R_3
    clear Ac0 Ac1 Acf
    clear Bc0 Bc1 Bcf
    clear Rc0 Rc1 Rcf
    have Ac0 : w4.cell? ⟨w.heap.size, 0, none⟩ = some (.int .u64 x) := (blk_cell A_4 0).trans rfl
    have Ac1 : w4.cell? ⟨w.heap.size, 1, none⟩ = some (.int .u64 y) := (blk_cell A_4 1).trans rfl
    have Acf := blk_free A_4
    have Bc0 : w4.cell? ⟨w.heap.size + 1, 0, none⟩ = some (.int .u64 z) := (blk_cell B_4 0).trans rfl
    have Bc1 : w4.cell? ⟨w.heap.size + 1, 1, none⟩ = some (.int .u64 t) := (blk_cell B_4 1).trans rfl
    have Bcf := blk_free B_4
    have Rc0 : w4.cell? ⟨w.heap.size + 1 + 1, 0, none⟩ = some (.int .u64 0) := (blk_cell R_4 0).trans rfl
    have Rc1 : w4.cell? ⟨w.heap.size + 1 + 1, 1, none⟩ = some (.int .u64 0) := (blk_cell R_4 1).trans rfl
    have Rcf := blk_free R_4
    have Al4 : w.heap.size < w4.heap.size := by omega
    have Bl4 : w.heap.size + 1 < w4.heap.size := by omega
    have Rl4 : w.heap.size + 1 + 1 < w4.heap.size := by omega
    have Xc0 : w4.cell? ⟨xX, 0, none⟩ = some (.int .u64 0) := (blk_cell X_4 0).trans rfl
    have Xc1 : w4.cell? ⟨xX, 1, none⟩ = some (.int .u64 p1) := (blk_cell X_4 1).trans rfl
    have Xc2 : w4.cell? ⟨xX, 2, none⟩ = some (.int .u64 p2) := (blk_cell X_4 2).trans rfl
    have Xcf := blk_free X_4
    have Xl4 : xX < w4.heap.size := lt_of_at X_4
    have Yc0 : w4.cell? ⟨xY, 0, none⟩ = some (.int .u64 0) := (blk_cell Y_4 0).trans rfl
    have Yc1 : w4.cell? ⟨xY, 1, none⟩ = some (.int .u64 q1) := (blk_cell Y_4 1).trans rfl
    have Yc2 : w4.cell? ⟨xY, 2, none⟩ = some (.int .u64 q2) := (blk_cell Y_4 2).trans rfl
    have Ycf := blk_free Y_4
    have Yl4 : xY < w4.heap.size := lt_of_at Y_4
    go_wp2_with fail
    refine (HP.out _).mono ?_
    rintro e w5 ⟨rfl, hb5⟩
    have hs5 := hb5.size
    try simp only [World.size_alloc, World.size_setCell] at hs5
    have A_5 : w5.heap[w.heap.size]? = some (.cells #[.int .u64 x, .int .u64 y] 24 (0, 0)) := below_at hb5 (by first | omega | (simp; done) | (simp; omega)) (at_of (by apply Exists.intro; refine ⟨?_, ?_⟩; (focus ((repeat (first | (with_reducible assumption) | (with_reducible exact alloc_at _ _) | ((with_reducible apply alloc_at'); (simp; done)) | (with_reducible apply alloc_at_lt) | (with_reducible apply heap_drew_at) | (with_reducible apply heap_drewN_at) | (with_reducible apply heap_setCell_same) | ((with_reducible apply heap_set_ne); (first | omega | (dsimp only; omega) | (simp; done) | (simp; omega))) | (with_reducible apply setRow_at) | ((with_reducible apply setRow_ne); (first | omega | (dsimp only; omega) | (simp; done) | (simp; omega))))))); simp))
    have B_5 : w5.heap[w.heap.size + 1]? = some (.cells #[.int .u64 z, .int .u64 t] 24 (0, 0)) := below_at hb5 (by first | omega | (simp; done) | (simp; omega)) (at_of (by apply Exists.intro; refine ⟨?_, ?_⟩; (focus ((repeat (first | (with_reducible assumption) | (with_reducible exact alloc_at _ _) | ((with_reducible apply alloc_at'); (simp; done)) | (with_reducible apply alloc_at_lt) | (with_reducible apply heap_drew_at) | (with_reducible apply heap_drewN_at) | (with_reducible apply heap_setCell_same) | ((with_reducible apply heap_set_ne); (first | omega | (dsimp only; omega) | (simp; done) | (simp; omega))) | (with_reducible apply setRow_at) | ((with_reducible apply setRow_ne); (first | omega | (dsimp only; omega) | (simp; done) | (simp; omega))))))); simp))
    have R_5 : w5.heap[w.heap.size + 1 + 1]? = some (.cells #[.int .u64 0, .int .u64 0] 24 (0, 0)) := below_at hb5 (by first | omega | (simp; done) | (simp; omega)) (by (repeat (first | (with_reducible assumption) | (with_reducible exact alloc_at _ _) | ((with_reducible apply alloc_at'); (simp; done)) | (with_reducible apply alloc_at_lt) | (with_reducible apply heap_drew_at) | (with_reducible apply heap_drewN_at) | (with_reducible apply heap_setCell_same) | ((with_reducible apply heap_set_ne); (first | omega | (dsimp only; omega) | (simp; done) | (simp; omega))) | (with_reducible apply setRow_at) | ((with_reducible apply setRow_ne); (first | omega | (dsimp only; omega) | (simp; done) | (simp; omega))))))
    have X_5 : w5.heap[xX]? = some (.cells #[.int .u64 0, .int .u64 p1, .int .u64 p2] 63 (0, 0)) := below_at hb5 (by first | omega | (simp; done) | (simp; omega)) (by (repeat (first | (with_reducible assumption) | (with_reducible exact alloc_at _ _) | ((with_reducible apply alloc_at'); (simp; done)) | (with_reducible apply alloc_at_lt) | (with_reducible apply heap_drew_at) | (with_reducible apply heap_drewN_at) | (with_reducible apply heap_setCell_same) | ((with_reducible apply heap_set_ne); (first | omega | (dsimp only; omega) | (simp; done) | (simp; omega))) | (with_reducible apply setRow_at) | ((with_reducible apply setRow_ne); (first | omega | (dsimp only; omega) | (simp; done) | (simp; omega))))))
    have Y_5 : w5.heap[xY]? = some (.cells #[.int .u64 0, .int .u64 q1, .int .u64 q2] 63 (0, 0)) := below_at hb5 (by first | omega | (simp; done) | (simp; omega)) (by (repeat (first | (with_reducible assumption) | (with_reducible exact alloc_at _ _) | ((with_reducible apply alloc_at'); (simp; done)) | (with_reducible apply alloc_at_lt) | (with_reducible apply heap_drew_at) | (with_reducible apply heap_drewN_at) | (with_reducible apply heap_setCell_same) | ((with_reducible apply heap_set_ne); (first | omega | (dsimp only; omega) | (simp; done) | (simp; omega))) | (with_reducible apply setRow_at) | ((with_reducible apply setRow_ne); (first | omega | (dsimp only; omega) | (simp; done) | (simp; omega))))))
    have B5 : Below w.heap.size w w5 := Below.trans (by repeat (first | with_reducible assumption | with_reducible exact Below.refl _ _ | with_reducible refine Below.drew ?_ | with_reducible refine below_drewN ?_ _ | with_reducible refine below_alloc ?_ _ | with_reducible refine Below.alloc ?_ (by first | omega | (simp; done) | (simp; omega)) _ | with_reducible refine Below.setCell ?_ (by first | omega | (simp; done) | (simp; omega)) _ | with_reducible refine below_setRow ?_ (by first | omega | (simp; done) | (simp; omega)) _)) (hb5.mono (by first | omega | (simp; done) | (simp; omega)))
    clear hb5 A_4 B_4 R_4 X_4 Y_4
    clear Ac0 Ac1 Acf
    clear Bc0 Bc1 Bcf
    clear Rc0 Rc1 Rcf
    clear Xc0 Xc1 Xc2 Xcf
    clear Yc0 Yc1 Yc2 Ycf
    have Ac0 : w5.cell? ⟨w.heap.size, 0, none⟩ = some (.int .u64 x) := (blk_cell A_5 0).trans rfl
    have Ac1 : w5.cell? ⟨w.heap.size, 1, none⟩ = some (.int .u64 y) := (blk_cell A_5 1).trans rfl
    have Acf := blk_free A_5
    have Bc0 : w5.cell? ⟨w.heap.size + 1, 0, none⟩ = some (.int .u64 z) := (blk_cell B_5 0).trans rfl
    have Bc1 : w5.cell? ⟨w.heap.size + 1, 1, none⟩ = some (.int .u64 t) := (blk_cell B_5 1).trans rfl
    have Bcf := blk_free B_5
    have Rc0 : w5.cell? ⟨w.heap.size + 1 + 1, 0, none⟩ = some (.int .u64 0) := (blk_cell R_5 0).trans rfl
    have Rc1 : w5.cell? ⟨w.heap.size + 1 + 1, 1, none⟩ = some (.int .u64 0) := (blk_cell R_5 1).trans rfl
    have Rcf := blk_free R_5
    have Xc0 : w5.cell? ⟨xX, 0, none⟩ = some (.int .u64 0) := (blk_cell X_5 0).trans rfl
    have Xc1 : w5.cell? ⟨xX, 1, none⟩ = some (.int .u64 p1) := (blk_cell X_5 1).trans rfl
    have Xc2 : w5.cell? ⟨xX, 2, none⟩ = some (.int .u64 p2) := (blk_cell X_5 2).trans rfl
    have Xcf := blk_free X_5
    have Yc0 : w5.cell? ⟨xY, 0, none⟩ = some (.int .u64 0) := (blk_cell Y_5 0).trans rfl
    have Yc1 : w5.cell? ⟨xY, 1, none⟩ = some (.int .u64 q1) := (blk_cell Y_5 1).trans rfl
    have Yc2 : w5.cell? ⟨xY, 2, none⟩ = some (.int .u64 q2) := (blk_cell Y_5 2).trans rfl
    have Ycf := blk_free Y_5
    have Al5 : w.heap.size < w5.heap.size := by omega
    have Bl5 : w.heap.size + 1 < w5.heap.size := by omega
    have Rl5 : w.heap.size + 1 + 1 < w5.heap.size := by omega
    have Xl5 : xX < w5.heap.size := by omega
    have Yl5 : xY < w5.heap.size := by omega
    go_wp2_with fail
    refine (HM.out _).mono ?_
    rintro e w6 ⟨rfl, hb6⟩
    have hs6 := hb6.size
    try simp only [World.size_alloc, World.size_setCell] at hs6
    have A_6 : w6.heap[w.heap.size]? = some (.cells #[.int .u64 x, .int .u64 y] 24 (0, 0)) := below_at hb6 (by first | omega | (simp; done) | (simp; omega)) (at_of (by apply Exists.intro; refine ⟨?_, ?_⟩; (focus ((repeat (first | (with_reducible assumption) | (with_reducible exact alloc_at _ _) | ((with_reducible apply alloc_at'); (simp; done)) | (with_reducible apply alloc_at_lt) | (with_reducible apply heap_drew_at) | (with_reducible apply heap_drewN_at) | (with_reducible apply heap_setCell_same) | ((with_reducible apply heap_set_ne); (first | omega | (dsimp only; omega) | (simp; done) | (simp; omega))) | (with_reducible apply setRow_at) | ((with_reducible apply setRow_ne); (first | omega | (dsimp only; omega) | (simp; done) | (simp; omega))))))); simp))
    have B_6 : w6.heap[w.heap.size + 1]? = some (.cells #[.int .u64 z, .int .u64 t] 24 (0, 0)) := below_at hb6 (by first | omega | (simp; done) | (simp; omega)) (at_of (by apply Exists.intro; refine ⟨?_, ?_⟩; (focus ((repeat (first | (with_reducible assumption) | (with_reducible exact alloc_at _ _) | ((with_reducible apply alloc_at'); (simp; done)) | (with_reducible apply alloc_at_lt) | (with_reducible apply heap_drew_at) | (with_reducible apply heap_drewN_at) | (with_reducible apply heap_setCell_same) | ((with_reducible apply heap_set_ne); (first | omega | (dsimp only; omega) | (simp; done) | (simp; omega))) | (with_reducible apply setRow_at) | ((with_reducible apply setRow_ne); (first | omega | (dsimp only; omega) | (simp; done) | (simp; omega))))))); simp))
    have R_6 : w6.heap[w.heap.size + 1 + 1]? = some (.cells #[.int .u64 0, .int .u64 0] 24 (0, 0)) := below_at hb6 (by first | omega | (simp; done) | (simp; omega)) (by (repeat (first | (with_reducible assumption) | (with_reducible exact alloc_at _ _) | ((with_reducible apply alloc_at'); (simp; done)) | (with_reducible apply alloc_at_lt) | (with_reducible apply heap_drew_at) | (with_reducible apply heap_drewN_at) | (with_reducible apply heap_setCell_same) | ((with_reducible apply heap_set_ne); (first | omega | (dsimp only; omega) | (simp; done) | (simp; omega))) | (with_reducible apply setRow_at) | ((with_reducible apply setRow_ne); (first | omega | (dsimp only; omega) | (simp; done) | (simp; omega))))))
    have X_6 : w6.heap[xX]? = some (.cells #[.int .u64 0, .int .u64 p1, .int .u64 p2] 63 (0, 0)) := below_at hb6 (by first | omega | (simp; done) | (simp; omega)) (by (repeat (first | (with_reducible assumption) | (with_reducible exact alloc_at _ _) | ((with_reducible apply alloc_at'); (simp; done)) | (with_reducible apply alloc_at_lt) | (with_reducible apply heap_drew_at) | (with_reducible apply heap_drewN_at) | (with_reducible apply heap_setCell_same) | ((with_reducible apply heap_set_ne); (first | omega | (dsimp only; omega) | (simp; done) | (simp; omega))) | (with_reducible apply setRow_at) | ((with_reducible apply setRow_ne); (first | omega | (dsimp only; omega) | (simp; done) | (simp; omega))))))
    have Y_6 : w6.heap[xY]? = some (.cells #[.int .u64 0, .int .u64 q1, .int .u64 q2] 63 (0, 0)) := below_at hb6 (by first | omega | (simp; done) | (simp; omega)) (by (repeat (first | (with_reducible assumption) | (with_reducible exact alloc_at _ _) | ((with_reducible apply alloc_at'); (simp; done)) | (with_reducible apply alloc_at_lt) | (with_reducible apply heap_drew_at) | (with_reducible apply heap_drewN_at) | (with_reducible apply heap_setCell_same) | ((with_reducible apply heap_set_ne); (first | omega | (dsimp only; omega) | (simp; done) | (simp; omega))) | (with_reducible apply setRow_at) | ((with_reducible apply setRow_ne); (first | omega | (dsimp only; omega) | (simp; done) | (simp; omega))))))
    have N_6 : w6.heap[w5.heap.size]? = some (.cells #[.int .u64 s0, .int .u64 s1, .int .u64 s2] 63 (0, 0)) := below_at hb6 (by first | omega | (simp; done) | (simp; omega)) (by (repeat (first | (with_reducible assumption) | (with_reducible exact alloc_at _ _) | ((with_reducible apply alloc_at'); (simp; done)) | (with_reducible apply alloc_at_lt) | (with_reducible apply heap_drew_at) | (with_reducible apply heap_drewN_at) | (with_reducible apply heap_setCell_same) | ((with_reducible apply heap_set_ne); (first | omega | (dsimp only; omega) | (simp; done) | (simp; omega))) | (with_reducible apply setRow_at) | ((with_reducible apply setRow_ne); (first | omega | (dsimp only; omega) | (simp; done) | (simp; omega))))))
    have B6 : Below w.heap.size w w6 := Below.trans (by repeat (first | with_reducible assumption | with_reducible exact Below.refl _ _ | with_reducible refine Below.drew ?_ | with_reducible refine below_drewN ?_ _ | with_reducible refine below_alloc ?_ _ | with_reducible refine Below.alloc ?_ (by first | omega | (simp; done) | (simp; omega)) _ | with_reducible refine Below.setCell ?_ (by first | omega | (simp; done) | (simp; omega)) _ | with_reducible refine below_setRow ?_ (by first | omega | (simp; done) | (simp; omega)) _)) (hb6.mono (by first | omega | (simp; done) | (simp; omega)))
    clear hb6 A_5 B_5 R_5 X_5 Y_5
    clear Ac0 Ac1 Acf
    clear Bc0 Bc1 Bcf
    clear Rc0 Rc1 Rcf
    clear Xc0 Xc1 Xc2 Xcf
    clear Yc0 Yc1 Yc2 Ycf
    have Ac0 : w6.cell? ⟨w.heap.size, 0, none⟩ = some (.int .u64 x) := (blk_cell A_6 0).trans rfl
    have Ac1 : w6.cell? ⟨w.heap.size, 1, none⟩ = some (.int .u64 y) := (blk_cell A_6 1).trans rfl
    have Acf := blk_free A_6
    have Bc0 : w6.cell? ⟨w.heap.size + 1, 0, none⟩ = some (.int .u64 z) := (blk_cell B_6 0).trans rfl
    have Bc1 : w6.cell? ⟨w.heap.size + 1, 1, none⟩ = some (.int .u64 t) := (blk_cell B_6 1).trans rfl
    have Bcf := blk_free B_6
    have Rc0 : w6.cell? ⟨w.heap.size + 1 + 1, 0, none⟩ = some (.int .u64 0) := (blk_cell R_6 0).trans rfl
    have Rc1 : w6.cell? ⟨w.heap.size + 1 + 1, 1, none⟩ = some (.int .u64 0) := (blk_cell R_6 1).trans rfl
    have Rcf := blk_free R_6
    have Xc0 : w6.cell? ⟨xX, 0, none⟩ = some (.int .u64 0) := (blk_cell X_6 0).trans rfl
    have Xc1 : w6.cell? ⟨xX, 1, none⟩ = some (.int .u64 p1) := (blk_cell X_6 1).trans rfl
    have Xc2 : w6.cell? ⟨xX, 2, none⟩ = some (.int .u64 p2) := (blk_cell X_6 2).trans rfl
    have Xcf := blk_free X_6
    have Yc0 : w6.cell? ⟨xY, 0, none⟩ = some (.int .u64 0) := (blk_cell Y_6 0).trans rfl
    have Yc1 : w6.cell? ⟨xY, 1, none⟩ = some (.int .u64 q1) := (blk_cell Y_6 1).trans rfl
    have Yc2 : w6.cell? ⟨xY, 2, none⟩ = some (.int .u64 q2) := (blk_cell Y_6 2).trans rfl
    have Ycf := blk_free Y_6
    have Nc0 : w6.cell? ⟨w5.heap.size, 0, none⟩ = some (.int .u64 s0) := (blk_cell N_6 0).trans rfl
    have Nc1 : w6.cell? ⟨w5.heap.size, 1, none⟩ = some (.int .u64 s1) := (blk_cell N_6 1).trans rfl
    have Nc2 : w6.cell? ⟨w5.heap.size, 2, none⟩ = some (.int .u64 s2) := (blk_cell N_6 2).trans rfl
    have Ncf := blk_free N_6
    have Al6 : w.heap.size < w6.heap.size := by omega
    have Bl6 : w.heap.size + 1 < w6.heap.size := by omega
    have Rl6 : w.heap.size + 1 + 1 < w6.heap.size := by omega
    have Xl6 : xX < w6.heap.size := by omega
    have Yl6 : xY < w6.heap.size := by omega
    have Nl6 : w5.heap.size < w6.heap.size := by omega
    go_wp2_with fail
    obtain ⟨w7, hw7⟩ : ∃ x : World, x = ((w6.setCell ⟨w5.heap.size, 0, none⟩ (.int .u64 m0)).setCell ⟨w5.heap.size, 1, none⟩ (.int .u64 m1)).setCell ⟨w5.heap.size, 2, none⟩ (.int .u64 m2) := ⟨_, rfl⟩
    rw [← hw7]
    have B7 : Below w.heap.size w w7 := by rw [hw7]; exact (by repeat (first | with_reducible assumption | with_reducible exact Below.refl _ _ | with_reducible refine Below.drew ?_ | with_reducible refine below_drewN ?_ _ | with_reducible refine below_alloc ?_ _ | with_reducible refine Below.alloc ?_ (by first | omega | (simp; done) | (simp; omega)) _ | with_reducible refine Below.setCell ?_ (by first | omega | (simp; done) | (simp; omega)) _ | with_reducible refine below_setRow ?_ (by first | omega | (simp; done) | (simp; omega)) _))
    have A_7 : w7.heap[w.heap.size]? = some (.cells #[.int .u64 x, .int .u64 y] 24 (0, 0)) := by rw [hw7]; exact at_of (by apply Exists.intro; refine ⟨?_, ?_⟩; (focus ((repeat (first | (with_reducible assumption) | (with_reducible exact alloc_at _ _) | ((with_reducible apply alloc_at'); (simp; done)) | (with_reducible apply alloc_at_lt) | (with_reducible apply heap_drew_at) | (with_reducible apply heap_drewN_at) | (with_reducible apply heap_setCell_same) | ((with_reducible apply heap_set_ne); (first | omega | (dsimp only; omega) | (simp; done) | (simp; omega))) | (with_reducible apply setRow_at) | ((with_reducible apply setRow_ne); (first | omega | (dsimp only; omega) | (simp; done) | (simp; omega))))))); simp)
    have B_7 : w7.heap[w.heap.size + 1]? = some (.cells #[.int .u64 z, .int .u64 t] 24 (0, 0)) := by rw [hw7]; exact at_of (by apply Exists.intro; refine ⟨?_, ?_⟩; (focus ((repeat (first | (with_reducible assumption) | (with_reducible exact alloc_at _ _) | ((with_reducible apply alloc_at'); (simp; done)) | (with_reducible apply alloc_at_lt) | (with_reducible apply heap_drew_at) | (with_reducible apply heap_drewN_at) | (with_reducible apply heap_setCell_same) | ((with_reducible apply heap_set_ne); (first | omega | (dsimp only; omega) | (simp; done) | (simp; omega))) | (with_reducible apply setRow_at) | ((with_reducible apply setRow_ne); (first | omega | (dsimp only; omega) | (simp; done) | (simp; omega))))))); simp)
    have R_7 : w7.heap[w.heap.size + 1 + 1]? = some (.cells #[.int .u64 0, .int .u64 0] 24 (0, 0)) := by rw [hw7]; exact at_of (by apply Exists.intro; refine ⟨?_, ?_⟩; (focus ((repeat (first | (with_reducible assumption) | (with_reducible exact alloc_at _ _) | ((with_reducible apply alloc_at'); (simp; done)) | (with_reducible apply alloc_at_lt) | (with_reducible apply heap_drew_at) | (with_reducible apply heap_drewN_at) | (with_reducible apply heap_setCell_same) | ((with_reducible apply heap_set_ne); (first | omega | (dsimp only; omega) | (simp; done) | (simp; omega))) | (with_reducible apply setRow_at) | ((with_reducible apply setRow_ne); (first | omega | (dsimp only; omega) | (simp; done) | (simp; omega))))))); simp)
    have X_7 : w7.heap[xX]? = some (.cells #[.int .u64 0, .int .u64 p1, .int .u64 p2] 63 (0, 0)) := by rw [hw7]; exact at_of (by apply Exists.intro; refine ⟨?_, ?_⟩; (focus ((repeat (first | (with_reducible assumption) | (with_reducible exact alloc_at _ _) | ((with_reducible apply alloc_at'); (simp; done)) | (with_reducible apply alloc_at_lt) | (with_reducible apply heap_drew_at) | (with_reducible apply heap_drewN_at) | (with_reducible apply heap_setCell_same) | ((with_reducible apply heap_set_ne); (first | omega | (dsimp only; omega) | (simp; done) | (simp; omega))) | (with_reducible apply setRow_at) | ((with_reducible apply setRow_ne); (first | omega | (dsimp only; omega) | (simp; done) | (simp; omega))))))); simp)
    have Y_7 : w7.heap[xY]? = some (.cells #[.int .u64 0, .int .u64 q1, .int .u64 q2] 63 (0, 0)) := by rw [hw7]; exact at_of (by apply Exists.intro; refine ⟨?_, ?_⟩; (focus ((repeat (first | (with_reducible assumption) | (with_reducible exact alloc_at _ _) | ((with_reducible apply alloc_at'); (simp; done)) | (with_reducible apply alloc_at_lt) | (with_reducible apply heap_drew_at) | (with_reducible apply heap_drewN_at) | (with_reducible apply heap_setCell_same) | ((with_reducible apply heap_set_ne); (first | omega | (dsimp only; omega) | (simp; done) | (simp; omega))) | (with_reducible apply setRow_at) | ((with_reducible apply setRow_ne); (first | omega | (dsimp only; omega) | (simp; done) | (simp; omega))))))); simp)
    have N_7 : w7.heap[w5.heap.size]? = some (.cells #[.int .u64 m0, .int .u64 m1, .int .u64 m2] 63 (0, 0)) := by rw [hw7]; exact at_of (by apply Exists.intro; refine ⟨?_, ?_⟩; (focus ((repeat (first | (with_reducible assumption) | (with_reducible exact alloc_at _ _) | ((with_reducible apply alloc_at'); (simp; done)) | (with_reducible apply alloc_at_lt) | (with_reducible apply heap_drew_at) | (with_reducible apply heap_drewN_at) | (with_reducible apply heap_setCell_same) | ((with_reducible apply heap_set_ne); (first | omega | (dsimp only; omega) | (simp; done) | (simp; omega))) | (with_reducible apply setRow_at) | ((with_reducible apply setRow_ne); (first | omega | (dsimp only; omega) | (simp; done) | (simp; omega))))))); simp)
    clear hw7
    have Ac0 : w7.cell? ⟨w.heap.size, 0, none⟩ = some (.int .u64 x) := (blk_cell A_7 0).trans rfl
    have Ac1 : w7.cell? ⟨w.heap.size, 1, none⟩ = some (.int .u64 y) := (blk_cell A_7 1).trans rfl
    have Acf := blk_free A_7
    have Bc0 : w7.cell? ⟨w.heap.size + 1, 0, none⟩ = some (.int .u64 z) := (blk_cell B_7 0).trans rfl
    have Bc1 : w7.cell? ⟨w.heap.size + 1, 1, none⟩ = some (.int .u64 t) := (blk_cell B_7 1).trans rfl
    have Bcf := blk_free B_7
    have Rc0 : w7.cell? ⟨w.heap.size + 1 + 1, 0, none⟩ = some (.int .u64 0) := (blk_cell R_7 0).trans rfl
    have Rc1 : w7.cell? ⟨w.heap.size + 1 + 1, 1, none⟩ = some (.int .u64 0) := (blk_cell R_7 1).trans rfl
    have Rcf := blk_free R_7
    have Xc0 : w7.cell? ⟨xX, 0, none⟩ = some (.int .u64 0) := (blk_cell X_7 0).trans rfl
    have Xc1 : w7.cell? ⟨xX, 1, none⟩ = some (.int .u64 p1) := (blk_cell X_7 1).trans rfl
    have Xc2 : w7.cell? ⟨xX, 2, none⟩ = some (.int .u64 p2) := (blk_cell X_7 2).trans rfl
    have Xcf := blk_free X_7
    have Yc0 : w7.cell? ⟨xY, 0, none⟩ = some (.int .u64 0) := (blk_cell Y_7 0).trans rfl
    have Yc1 : w7.cell? ⟨xY, 1, none⟩ = some (.int .u64 q1) := (blk_cell Y_7 1).trans rfl
    have Yc2 : w7.cell? ⟨xY, 2, none⟩ = some (.int .u64 q2) := (blk_cell Y_7 2).trans rfl
    have Ycf := blk_free Y_7
    have Nc0 : w7.cell? ⟨w5.heap.size, 0, none⟩ = some (.int .u64 m0) := (blk_cell N_7 0).trans rfl
    have Nc1 : w7.cell? ⟨w5.heap.size, 1, none⟩ = some (.int .u64 m1) := (blk_cell N_7 1).trans rfl
    have Nc2 : w7.cell? ⟨w5.heap.size, 2, none⟩ = some (.int .u64 m2) := (blk_cell N_7 2).trans rfl
    have Ncf := blk_free N_7
    have Al7 : w.heap.size < w7.heap.size := lt_of_at A_7
    have Bl7 : w.heap.size + 1 < w7.heap.size := lt_of_at B_7
    have Rl7 : w.heap.size + 1 + 1 < w7.heap.size := lt_of_at R_7
    have Xl7 : xX < w7.heap.size := lt_of_at X_7
    have Yl7 : xY < w7.heap.size := lt_of_at Y_7
    have Nl7 : w5.heap.size < w7.heap.size := lt_of_at N_7
    have Ae0 : ∀ lx_ : Lat w7.heap.size w7, lx_.w.cell? ⟨w.heap.size, 0, none⟩ = some (.int .u64 x) := fun lx_ => by rw [lx_.cell _ _ Al7]; exact Ac0
    have Ae1 : ∀ lx_ : Lat w7.heap.size w7, lx_.w.cell? ⟨w.heap.size, 1, none⟩ = some (.int .u64 y) := fun lx_ => by rw [lx_.cell _ _ Al7]; exact Ac1
    have Be0 : ∀ lx_ : Lat w7.heap.size w7, lx_.w.cell? ⟨w.heap.size + 1, 0, none⟩ = some (.int .u64 z) := fun lx_ => by rw [lx_.cell _ _ Bl7]; exact Bc0
    have Be1 : ∀ lx_ : Lat w7.heap.size w7, lx_.w.cell? ⟨w.heap.size + 1, 1, none⟩ = some (.int .u64 t) := fun lx_ => by rw [lx_.cell _ _ Bl7]; exact Bc1
    have Ne0 : ∀ lx_ : Lat w7.heap.size w7, lx_.w.cell? ⟨w5.heap.size, 0, none⟩ = some (.int .u64 m0) := fun lx_ => by rw [lx_.cell _ _ Nl7]; exact Nc0
    have Ne1 : ∀ lx_ : Lat w7.heap.size w7, lx_.w.cell? ⟨w5.heap.size, 1, none⟩ = some (.int .u64 m1) := fun lx_ => by rw [lx_.cell _ _ Nl7]; exact Nc1
    have Ne2 : ∀ lx_ : Lat w7.heap.size w7, lx_.w.cell? ⟨w5.heap.size, 2, none⟩ = some (.int .u64 m2) := fun lx_ => by rw [lx_.cell _ _ Nl7]; exact Nc2
    refine wp_region_lat_tail 10 (by kernel_rfl) (by kernel_rfl) ?_
    simp only [List.take_succ_cons, List.take_zero, List.drop_succ_cons, List.drop_zero]
    repeat (go_big_quiet_step (first | (go_at_call 38; exact lat_of (Nat.le_refl _) (HO.out _))))
    refine wpQuiet_nil ?_
    rintro w8 ⟨x8, hx8⟩
    have hb8 := x8.h
    rw [← hx8] at hb8
    clear hx8 x8 Ae0 Ae1 Be0 Be1 Ne0 Ne1 Ne2
    have hs8 := hb8.size
    try simp only [World.size_alloc, World.size_setCell] at hs8
    have A_8 : w8.heap[w.heap.size]? = some (.cells #[.int .u64 x, .int .u64 y] 24 (0, 0)) := below_at hb8 (by first | omega | (simp; done) | (simp; omega)) (by (repeat (first | (with_reducible assumption) | (with_reducible exact alloc_at _ _) | ((with_reducible apply alloc_at'); (simp; done)) | (with_reducible apply alloc_at_lt) | (with_reducible apply heap_drew_at) | (with_reducible apply heap_drewN_at) | (with_reducible apply heap_setCell_same) | ((with_reducible apply heap_set_ne); (first | omega | (dsimp only; omega) | (simp; done) | (simp; omega))) | (with_reducible apply setRow_at) | ((with_reducible apply setRow_ne); (first | omega | (dsimp only; omega) | (simp; done) | (simp; omega))))))
    have B_8 : w8.heap[w.heap.size + 1]? = some (.cells #[.int .u64 z, .int .u64 t] 24 (0, 0)) := below_at hb8 (by first | omega | (simp; done) | (simp; omega)) (by (repeat (first | (with_reducible assumption) | (with_reducible exact alloc_at _ _) | ((with_reducible apply alloc_at'); (simp; done)) | (with_reducible apply alloc_at_lt) | (with_reducible apply heap_drew_at) | (with_reducible apply heap_drewN_at) | (with_reducible apply heap_setCell_same) | ((with_reducible apply heap_set_ne); (first | omega | (dsimp only; omega) | (simp; done) | (simp; omega))) | (with_reducible apply setRow_at) | ((with_reducible apply setRow_ne); (first | omega | (dsimp only; omega) | (simp; done) | (simp; omega))))))
    have R_8 : w8.heap[w.heap.size + 1 + 1]? = some (.cells #[.int .u64 0, .int .u64 0] 24 (0, 0)) := below_at hb8 (by first | omega | (simp; done) | (simp; omega)) (by (repeat (first | (with_reducible assumption) | (with_reducible exact alloc_at _ _) | ((with_reducible apply alloc_at'); (simp; done)) | (with_reducible apply alloc_at_lt) | (with_reducible apply heap_drew_at) | (with_reducible apply heap_drewN_at) | (with_reducible apply heap_setCell_same) | ((with_reducible apply heap_set_ne); (first | omega | (dsimp only; omega) | (simp; done) | (simp; omega))) | (with_reducible apply setRow_at) | ((with_reducible apply setRow_ne); (first | omega | (dsimp only; omega) | (simp; done) | (simp; omega))))))
    have X_8 : w8.heap[xX]? = some (.cells #[.int .u64 0, .int .u64 p1, .int .u64 p2] 63 (0, 0)) := below_at hb8 (by first | omega | (simp; done) | (simp; omega)) (by (repeat (first | (with_reducible assumption) | (with_reducible exact alloc_at _ _) | ((with_reducible apply alloc_at'); (simp; done)) | (with_reducible apply alloc_at_lt) | (with_reducible apply heap_drew_at) | (with_reducible apply heap_drewN_at) | (with_reducible apply heap_setCell_same) | ((with_reducible apply heap_set_ne); (first | omega | (dsimp only; omega) | (simp; done) | (simp; omega))) | (with_reducible apply setRow_at) | ((with_reducible apply setRow_ne); (first | omega | (dsimp only; omega) | (simp; done) | (simp; omega))))))
    have Y_8 : w8.heap[xY]? = some (.cells #[.int .u64 0, .int .u64 q1, .int .u64 q2] 63 (0, 0)) := below_at hb8 (by first | omega | (simp; done) | (simp; omega)) (by (repeat (first | (with_reducible assumption) | (with_reducible exact alloc_at _ _) | ((with_reducible apply alloc_at'); (simp; done)) | (with_reducible apply alloc_at_lt) | (with_reducible apply heap_drew_at) | (with_reducible apply heap_drewN_at) | (with_reducible apply heap_setCell_same) | ((with_reducible apply heap_set_ne); (first | omega | (dsimp only; omega) | (simp; done) | (simp; omega))) | (with_reducible apply setRow_at) | ((with_reducible apply setRow_ne); (first | omega | (dsimp only; omega) | (simp; done) | (simp; omega))))))
    have N_8 : w8.heap[w5.heap.size]? = some (.cells #[.int .u64 m0, .int .u64 m1, .int .u64 m2] 63 (0, 0)) := below_at hb8 (by first | omega | (simp; done) | (simp; omega)) (by (repeat (first | (with_reducible assumption) | (with_reducible exact alloc_at _ _) | ((with_reducible apply alloc_at'); (simp; done)) | (with_reducible apply alloc_at_lt) | (with_reducible apply heap_drew_at) | (with_reducible apply heap_drewN_at) | (with_reducible apply heap_setCell_same) | ((with_reducible apply heap_set_ne); (first | omega | (dsimp only; omega) | (simp; done) | (simp; omega))) | (with_reducible apply setRow_at) | ((with_reducible apply setRow_ne); (first | omega | (dsimp only; omega) | (simp; done) | (simp; omega))))))
    have B8 : Below w.heap.size w w8 := Below.trans (by repeat (first | with_reducible assumption | with_reducible exact Below.refl _ _ | with_reducible refine Below.drew ?_ | with_reducible refine below_drewN ?_ _ | with_reducible refine below_alloc ?_ _ | with_reducible refine Below.alloc ?_ (by first | omega | (simp; done) | (simp; omega)) _ | with_reducible refine Below.setCell ?_ (by first | omega | (simp; done) | (simp; omega)) _ | with_reducible refine below_setRow ?_ (by first | omega | (simp; done) | (simp; omega)) _)) (hb8.mono (by first | omega | (simp; done) | (simp; omega)))
    clear hb8 A_7 B_7 R_7 X_7 Y_7 N_7
    clear Ac0 Ac1 Acf
    clear Bc0 Bc1 Bcf
    clear Rc0 Rc1 Rcf
    clear Xc0 Xc1 Xc2 Xcf
    clear Yc0 Yc1 Yc2 Ycf
    clear Nc0 Nc1 Nc2 Ncf
    have Ac0 : w8.cell? ⟨w.heap.size, 0, none⟩ = some (.int .u64 x) := (blk_cell A_8 0).trans rfl
    have Ac1 : w8.cell? ⟨w.heap.size, 1, none⟩ = some (.int .u64 y) := (blk_cell A_8 1).trans rfl
    have Acf := blk_free A_8
    have Bc0 : w8.cell? ⟨w.heap.size + 1, 0, none⟩ = some (.int .u64 z) := (blk_cell B_8 0).trans rfl
    have Bc1 : w8.cell? ⟨w.heap.size + 1, 1, none⟩ = some (.int .u64 t) := (blk_cell B_8 1).trans rfl
    have Bcf := blk_free B_8
    have Rc0 : w8.cell? ⟨w.heap.size + 1 + 1, 0, none⟩ = some (.int .u64 0) := (blk_cell R_8 0).trans rfl
    have Rc1 : w8.cell? ⟨w.heap.size + 1 + 1, 1, none⟩ = some (.int .u64 0) := (blk_cell R_8 1).trans rfl
    have Rcf := blk_free R_8
    have Xc0 : w8.cell? ⟨xX, 0, none⟩ = some (.int .u64 0) := (blk_cell X_8 0).trans rfl
    have Xc1 : w8.cell? ⟨xX, 1, none⟩ = some (.int .u64 p1) := (blk_cell X_8 1).trans rfl
    have Xc2 : w8.cell? ⟨xX, 2, none⟩ = some (.int .u64 p2) := (blk_cell X_8 2).trans rfl
    have Xcf := blk_free X_8
    have Yc0 : w8.cell? ⟨xY, 0, none⟩ = some (.int .u64 0) := (blk_cell Y_8 0).trans rfl
    have Yc1 : w8.cell? ⟨xY, 1, none⟩ = some (.int .u64 q1) := (blk_cell Y_8 1).trans rfl
    have Yc2 : w8.cell? ⟨xY, 2, none⟩ = some (.int .u64 q2) := (blk_cell Y_8 2).trans rfl
    have Ycf := blk_free Y_8
    have Nc0 : w8.cell? ⟨w5.heap.size, 0, none⟩ = some (.int .u64 m0) := (blk_cell N_8 0).trans rfl
    have Nc1 : w8.cell? ⟨w5.heap.size, 1, none⟩ = some (.int .u64 m1) := (blk_cell N_8 1).trans rfl
    have Nc2 : w8.cell? ⟨w5.heap.size, 2, none⟩ = some (.int .u64 m2) := (blk_cell N_8 2).trans rfl
    have Ncf := blk_free N_8
    have Al8 : w.heap.size < w8.heap.size := by omega
    have Bl8 : w.heap.size + 1 < w8.heap.size := by omega
    have Rl8 : w.heap.size + 1 + 1 < w8.heap.size := by omega
    have Xl8 : xX < w8.heap.size := by omega
    have Yl8 : xY < w8.heap.size := by omega
    have Nl8 : w5.heap.size < w8.heap.size := by omega
    go_wp2
    refine ret_row2 rfl (w.heap.size + 1 + 1) #[.int .u64 r0, .int .u64 r1] 24 _ rfl Try.underlying24 rfl infoR rfl (by apply Exists.intro; refine ⟨?_, ?_⟩; (focus ((repeat (first | (with_reducible assumption) | (with_reducible exact alloc_at _ _) | ((with_reducible apply alloc_at'); (simp; done)) | (with_reducible apply alloc_at_lt) | (with_reducible apply heap_drew_at) | (with_reducible apply heap_drewN_at) | (with_reducible apply heap_setCell_same) | ((with_reducible apply heap_set_ne); (first | omega | (dsimp only; omega) | (simp; done) | (simp; omega))) | (with_reducible apply setRow_at) | ((with_reducible apply setRow_ne); (first | omega | (dsimp only; omega) | (simp; done) | (simp; omega))))))); simp) ⟨rfl, (by repeat (first | with_reducible assumption | with_reducible exact Below.refl _ _ | with_reducible refine Below.drew ?_ | with_reducible refine below_drewN ?_ _ | with_reducible refine below_alloc ?_ _ | with_reducible refine Below.alloc ?_ (by first | omega | (simp; done) | (simp; omega)) _ | with_reducible refine Below.setCell ?_ (by first | omega | (simp; done) | (simp; omega)) _ | with_reducible refine below_setRow ?_ (by first | omega | (simp; done) | (simp; omega)) _))⟩
end Go.Proofs.Ytbkopmgfkokmgaa
