/- The program's long fraction, over a bottom of two factors: its walk. Asked: what each step comes to. -/
import Derived.Test.YtbkopmgfkokmgaaWide2
import Derived.Test.YtbkopmgfkokmgaaFrac
import Derived.Deep.DeepCutAuto
namespace Go.Proofs.Ytbkopmgfkokmgaa
open Go.RowKit
set_option maxRecDepth 100000 in
set_option maxHeartbeats 4000000 in
theorem over_a (a b c p q r1 g1 a1 b1 c1 v1 p1 r2 g2 a2 b2 c2 v2 q1 h l u0 u1 u2 u3 u4 u5 : Int) (w : World) (bp : 0 ≤ p) (bg1 : 1 ≤ g1) (bq : 0 ≤ q) (bg2 : 1 ≤ g2) (bp1 : 0 ≤ p1) (bp2 : p1 ≤ 18446744073709551615) (bq1 : 0 ≤ q1) (bq2 : q1 ≤ 18446744073709551615) (ht : (a2 != 0) = true)
    (D1 : Hid (∀ W, Calls Try.prog 44 #[.agg #[.int .u64 a, .int .u64 b, .int .u64 c], .int .u64 p] W fun e w' => e = .returned (.tuple #[.agg #[.int .u64 u0, .int .u64 u1, .int .u64 u2], .int .u64 r1]) ∧ Below W.heap.size W w')) (G1 : Hid (∀ W, Calls Try.prog 32 #[.int .u64 p, .int .u64 r1] W fun e w' => e = .returned (.int .u64 g1) ∧ Below W.heap.size W w')) (D2 : Hid (∀ W, Calls Try.prog 44 #[.agg #[.int .u64 a, .int .u64 b, .int .u64 c], .int .u64 g1] W fun e w' => e = .returned (.tuple #[.agg #[.int .u64 a1, .int .u64 b1, .int .u64 c1], .int .u64 v1]) ∧ Below W.heap.size W w')) (E1 : Hid (IntKind.u64.wrap (p.tdiv g1) = p1))
    (D3 : Hid (∀ W, Calls Try.prog 44 #[.agg #[.int .u64 a1, .int .u64 b1, .int .u64 c1], .int .u64 q] W fun e w' => e = .returned (.tuple #[.agg #[.int .u64 u3, .int .u64 u4, .int .u64 u5], .int .u64 r2]) ∧ Below W.heap.size W w')) (G2 : Hid (∀ W, Calls Try.prog 32 #[.int .u64 q, .int .u64 r2] W fun e w' => e = .returned (.int .u64 g2) ∧ Below W.heap.size W w')) (D4 : Hid (∀ W, Calls Try.prog 44 #[.agg #[.int .u64 a1, .int .u64 b1, .int .u64 c1], .int .u64 g2] W fun e w' => e = .returned (.tuple #[.agg #[.int .u64 a2, .int .u64 b2, .int .u64 c2], .int .u64 v2]) ∧ Below W.heap.size W w')) (E2 : Hid (IntKind.u64.wrap (q.tdiv g2) = q1))
    (HM : Hid (∀ W, Calls Try.prog 22 #[.int .u64 p1, .int .u64 q1] W fun e w' => e = .returned (.tuple #[.int .u64 h, .int .u64 l]) ∧ W = w')) :
    Calls Try.prog 38 #[.agg #[.int .u64 a, .int .u64 b, .int .u64 c], .int .u64 p, .int .u64 q] w fun e w' => e = .returned (.tuple #[.agg #[.int .u64 0, .int .u64 0], .int .i64 7]) ∧ Below w.heap.size w w' := by
  go_enter Try.func38, Try.ntmps38
  go_wp2_with fail
  refine wp_loop_rounds 3 ?_
  rw [rounds_succ]
  go_upto_region 3 with fail
  go_cut [9] (fun s wx => s = .pointer (some ⟨w.heap.size + 1, 0, none⟩) ∧ Below w.heap.size w wx ∧ wx.heap[w.heap.size]? = some (.cells #[.int .u64 a, .int .u64 b, .int .u64 c] 63 (0, 0)) ∧ wx.heap[w.heap.size + 1]? = some (.cells #[.int .u64 p] 22 (0, 0)) ∧ wx.heap[w.heap.size + 1 + 1]? = some (.cells #[.int .u64 q] 22 (0, 0)) ∧ wx.heap[w.heap.size + 1 + 1 + 1]? = some (.cells #[.int .u64 0, .int .u64 0] 24 (0, 0)) ∧ wx.heap[w.heap.size + 1 + 1 + 1 + 1]? = some (.cells #[.pointer (some ⟨w.heap.size + 1, 0, none⟩), .pointer (some ⟨w.heap.size + 1 + 1, 0, none⟩)] 72 (0, 0)))
  case first =>
    go_wp2
    go_meet
    exact ⟨rfl, (by repeat (first | with_reducible assumption | with_reducible exact Below.refl _ _ | with_reducible refine Below.drew ?_ | with_reducible refine below_drewN ?_ _ | with_reducible refine below_alloc ?_ _ | with_reducible refine Below.alloc ?_ (by first | omega | (simp; done) | (simp; omega)) _ | with_reducible refine Below.setCell ?_ (by first | omega | (simp; done) | (simp; omega)) _ | with_reducible refine below_setRow ?_ (by first | omega | (simp; done) | (simp; omega)) _)), (at_of (by apply Exists.intro; refine ⟨?_, ?_⟩; (focus ((repeat (first | (with_reducible assumption) | (with_reducible exact alloc_at _ _) | ((with_reducible apply alloc_at'); (simp; done)) | (with_reducible apply alloc_at_lt) | (with_reducible apply heap_drew_at) | (with_reducible apply heap_drewN_at) | (with_reducible apply heap_setCell_same) | ((with_reducible apply heap_set_ne); (first | omega | (dsimp only; omega) | (simp; done) | (simp; omega))) | (with_reducible apply setRow_at) | ((with_reducible apply setRow_ne); (first | omega | (dsimp only; omega) | (simp; done) | (simp; omega))))))); simp)), (at_of (by apply Exists.intro; refine ⟨?_, ?_⟩; (focus ((repeat (first | (with_reducible assumption) | (with_reducible exact alloc_at _ _) | ((with_reducible apply alloc_at'); (simp; done)) | (with_reducible apply alloc_at_lt) | (with_reducible apply heap_drew_at) | (with_reducible apply heap_drewN_at) | (with_reducible apply heap_setCell_same) | ((with_reducible apply heap_set_ne); (first | omega | (dsimp only; omega) | (simp; done) | (simp; omega))) | (with_reducible apply setRow_at) | ((with_reducible apply setRow_ne); (first | omega | (dsimp only; omega) | (simp; done) | (simp; omega))))))); simp)), (at_of (by apply Exists.intro; refine ⟨?_, ?_⟩; (focus ((repeat (first | (with_reducible assumption) | (with_reducible exact alloc_at _ _) | ((with_reducible apply alloc_at'); (simp; done)) | (with_reducible apply alloc_at_lt) | (with_reducible apply heap_drew_at) | (with_reducible apply heap_drewN_at) | (with_reducible apply heap_setCell_same) | ((with_reducible apply heap_set_ne); (first | omega | (dsimp only; omega) | (simp; done) | (simp; omega))) | (with_reducible apply setRow_at) | ((with_reducible apply setRow_ne); (first | omega | (dsimp only; omega) | (simp; done) | (simp; omega))))))); simp)), (at_of (by apply Exists.intro; refine ⟨?_, ?_⟩; (focus ((repeat (first | (with_reducible assumption) | (with_reducible exact alloc_at _ _) | ((with_reducible apply alloc_at'); (simp; done)) | (with_reducible apply alloc_at_lt) | (with_reducible apply heap_drew_at) | (with_reducible apply heap_drewN_at) | (with_reducible apply heap_setCell_same) | ((with_reducible apply heap_set_ne); (first | omega | (dsimp only; omega) | (simp; done) | (simp; omega))) | (with_reducible apply setRow_at) | ((with_reducible apply setRow_ne); (first | omega | (dsimp only; omega) | (simp; done) | (simp; omega))))))); simp)), (at_of (by apply Exists.intro; refine ⟨?_, ?_⟩; (focus ((repeat (first | (with_reducible assumption) | (with_reducible exact alloc_at _ _) | ((with_reducible apply alloc_at'); (simp; done)) | (with_reducible apply alloc_at_lt) | (with_reducible apply heap_drew_at) | (with_reducible apply heap_drewN_at) | (with_reducible apply heap_setCell_same) | ((with_reducible apply heap_set_ne); (first | omega | (dsimp only; omega) | (simp; done) | (simp; omega))) | (with_reducible apply setRow_at) | ((with_reducible apply setRow_ne); (first | omega | (dsimp only; omega) | (simp; done) | (simp; omega))))))); simp))⟩
  case rest =>
    obtain ⟨rfl, B1, N_1, P_1, Q_1, R_1, S_1⟩ := hcut
    obtain ⟨w1, rfl⟩ : ∃ x : World, x = wc := ⟨_, rfl⟩
    have Nc0 : w1.cell? ⟨w.heap.size, 0, none⟩ = some (.int .u64 a) := (blk_cell N_1 0).trans rfl
    have Nc1 : w1.cell? ⟨w.heap.size, 1, none⟩ = some (.int .u64 b) := (blk_cell N_1 1).trans rfl
    have Nc2 : w1.cell? ⟨w.heap.size, 2, none⟩ = some (.int .u64 c) := (blk_cell N_1 2).trans rfl
    have Ncf := blk_free N_1
    have Pc0 : w1.cell? ⟨w.heap.size + 1, 0, none⟩ = some (.int .u64 p) := (blk_cell P_1 0).trans rfl
    have Pcf := blk_free P_1
    have Qc0 : w1.cell? ⟨w.heap.size + 1 + 1, 0, none⟩ = some (.int .u64 q) := (blk_cell Q_1 0).trans rfl
    have Qcf := blk_free Q_1
    have Rc0 : w1.cell? ⟨w.heap.size + 1 + 1 + 1, 0, none⟩ = some (.int .u64 0) := (blk_cell R_1 0).trans rfl
    have Rc1 : w1.cell? ⟨w.heap.size + 1 + 1 + 1, 1, none⟩ = some (.int .u64 0) := (blk_cell R_1 1).trans rfl
    have Rcf := blk_free R_1
    have Sc0 : w1.cell? ⟨w.heap.size + 1 + 1 + 1 + 1, 0, none⟩ = some (.pointer (some ⟨w.heap.size + 1, 0, none⟩)) := (blk_cell S_1 0).trans rfl
    have Sc1 : w1.cell? ⟨w.heap.size + 1 + 1 + 1 + 1, 1, none⟩ = some (.pointer (some ⟨w.heap.size + 1 + 1, 0, none⟩)) := (blk_cell S_1 1).trans rfl
    have Scf := blk_free S_1
    have Nl1 : w.heap.size < w1.heap.size := lt_of_at N_1
    have Pl1 : w.heap.size + 1 < w1.heap.size := lt_of_at P_1
    have Ql1 : w.heap.size + 1 + 1 < w1.heap.size := lt_of_at Q_1
    have Rl1 : w.heap.size + 1 + 1 + 1 < w1.heap.size := lt_of_at R_1
    have Sl1 : w.heap.size + 1 + 1 + 1 + 1 < w1.heap.size := lt_of_at S_1
    go_upto_region 4 with fail
    go_cut [11] (fun s0_ wx => s0_ = .int .u64 r1 ∧ Below w1.heap.size w1 wx)
    case first =>
      go_region_held3 (fun w' => Below w1.heap.size w1 w' ∧ (∀ b o, b < w1.heap.size → w'.cell? ⟨b, o, none⟩ = w1.cell? ⟨b, o, none⟩) ∧ ∀ b o, b < w1.heap.size → w'.frozen? ⟨b, o, none⟩ = w1.frozen? ⟨b, o, none⟩) (first | ((try go_split_ands); (try dsimp only); refine same_of ?_; (repeat (first | with_reducible assumption | with_reducible exact Below.refl _ _ | with_reducible refine Below.drew ?_ | with_reducible refine below_drewN ?_ _ | with_reducible refine below_alloc ?_ _ | with_reducible refine Below.alloc ?_ (by first | omega | (simp; done) | (simp; omega)) _ | with_reducible refine Below.setCell ?_ (by first | omega | (simp; done) | (simp; omega)) _ | with_reducible refine below_setRow ?_ (by first | omega | (simp; done) | (simp; omega)) _)); done) | ((try go_split_ands); (try dsimp only); refine same_of ?_; (repeat (first | with_reducible refine below_call ?_ hb99 | with_reducible assumption | with_reducible exact Below.refl _ _ | with_reducible refine Below.drew ?_ | with_reducible refine below_alloc ?_ _)); done)) (first | (go_at_call 44; refine (D1.out _).mono ?_; rintro e w99 ⟨rfl, hb99⟩; obtain ⟨hc99, hf99⟩ := bcell hb99))
      all_goals
        obtain ⟨hb98, -, -⟩ : Below w1.heap.size w1 _ ∧ _ ∧ _ := by assumption
        go_wp2_with fail
        go_meet
        exact ⟨by first | rfl | (simp; done) | (simp; omega), hb98⟩
    case rest =>
      obtain ⟨rfl, hb2⟩ := hcut
      obtain ⟨w2, rfl⟩ : ∃ x : World, x = wc := ⟨_, rfl⟩
      have hs2 := hb2.size
      try simp only [World.size_alloc, World.size_setCell] at hs2
      have N_2 : w2.heap[w.heap.size]? = some (.cells #[.int .u64 a, .int .u64 b, .int .u64 c] 63 (0, 0)) := below_at hb2 (by first | omega | (simp; done) | (simp; omega)) (by (repeat (first | (with_reducible assumption) | (with_reducible exact alloc_at _ _) | ((with_reducible apply alloc_at'); (simp; done)) | (with_reducible apply alloc_at_lt) | (with_reducible apply heap_drew_at) | (with_reducible apply heap_drewN_at) | (with_reducible apply heap_setCell_same) | ((with_reducible apply heap_set_ne); (first | omega | (dsimp only; omega) | (simp; done) | (simp; omega))) | (with_reducible apply setRow_at) | ((with_reducible apply setRow_ne); (first | omega | (dsimp only; omega) | (simp; done) | (simp; omega))))))
      have P_2 : w2.heap[w.heap.size + 1]? = some (.cells #[.int .u64 p] 22 (0, 0)) := below_at hb2 (by first | omega | (simp; done) | (simp; omega)) (by (repeat (first | (with_reducible assumption) | (with_reducible exact alloc_at _ _) | ((with_reducible apply alloc_at'); (simp; done)) | (with_reducible apply alloc_at_lt) | (with_reducible apply heap_drew_at) | (with_reducible apply heap_drewN_at) | (with_reducible apply heap_setCell_same) | ((with_reducible apply heap_set_ne); (first | omega | (dsimp only; omega) | (simp; done) | (simp; omega))) | (with_reducible apply setRow_at) | ((with_reducible apply setRow_ne); (first | omega | (dsimp only; omega) | (simp; done) | (simp; omega))))))
      have Q_2 : w2.heap[w.heap.size + 1 + 1]? = some (.cells #[.int .u64 q] 22 (0, 0)) := below_at hb2 (by first | omega | (simp; done) | (simp; omega)) (by (repeat (first | (with_reducible assumption) | (with_reducible exact alloc_at _ _) | ((with_reducible apply alloc_at'); (simp; done)) | (with_reducible apply alloc_at_lt) | (with_reducible apply heap_drew_at) | (with_reducible apply heap_drewN_at) | (with_reducible apply heap_setCell_same) | ((with_reducible apply heap_set_ne); (first | omega | (dsimp only; omega) | (simp; done) | (simp; omega))) | (with_reducible apply setRow_at) | ((with_reducible apply setRow_ne); (first | omega | (dsimp only; omega) | (simp; done) | (simp; omega))))))
      have R_2 : w2.heap[w.heap.size + 1 + 1 + 1]? = some (.cells #[.int .u64 0, .int .u64 0] 24 (0, 0)) := below_at hb2 (by first | omega | (simp; done) | (simp; omega)) (by (repeat (first | (with_reducible assumption) | (with_reducible exact alloc_at _ _) | ((with_reducible apply alloc_at'); (simp; done)) | (with_reducible apply alloc_at_lt) | (with_reducible apply heap_drew_at) | (with_reducible apply heap_drewN_at) | (with_reducible apply heap_setCell_same) | ((with_reducible apply heap_set_ne); (first | omega | (dsimp only; omega) | (simp; done) | (simp; omega))) | (with_reducible apply setRow_at) | ((with_reducible apply setRow_ne); (first | omega | (dsimp only; omega) | (simp; done) | (simp; omega))))))
      have S_2 : w2.heap[w.heap.size + 1 + 1 + 1 + 1]? = some (.cells #[.pointer (some ⟨w.heap.size + 1, 0, none⟩), .pointer (some ⟨w.heap.size + 1 + 1, 0, none⟩)] 72 (0, 0)) := below_at hb2 (by first | omega | (simp; done) | (simp; omega)) (by (repeat (first | (with_reducible assumption) | (with_reducible exact alloc_at _ _) | ((with_reducible apply alloc_at'); (simp; done)) | (with_reducible apply alloc_at_lt) | (with_reducible apply heap_drew_at) | (with_reducible apply heap_drewN_at) | (with_reducible apply heap_setCell_same) | ((with_reducible apply heap_set_ne); (first | omega | (dsimp only; omega) | (simp; done) | (simp; omega))) | (with_reducible apply setRow_at) | ((with_reducible apply setRow_ne); (first | omega | (dsimp only; omega) | (simp; done) | (simp; omega))))))
      have B2 : Below w.heap.size w w2 := Below.trans (by repeat (first | with_reducible assumption | with_reducible exact Below.refl _ _ | with_reducible refine Below.drew ?_ | with_reducible refine below_drewN ?_ _ | with_reducible refine below_alloc ?_ _ | with_reducible refine Below.alloc ?_ (by first | omega | (simp; done) | (simp; omega)) _ | with_reducible refine Below.setCell ?_ (by first | omega | (simp; done) | (simp; omega)) _ | with_reducible refine below_setRow ?_ (by first | omega | (simp; done) | (simp; omega)) _)) (hb2.mono (by first | omega | (simp; done) | (simp; omega)))
      clear hb2 N_1 P_1 Q_1 R_1 S_1
      clear Nc0 Nc1 Nc2 Ncf
      clear Pc0 Pcf
      clear Qc0 Qcf
      clear Rc0 Rc1 Rcf
      clear Sc0 Sc1 Scf
      have Nc0 : w2.cell? ⟨w.heap.size, 0, none⟩ = some (.int .u64 a) := (blk_cell N_2 0).trans rfl
      have Nc1 : w2.cell? ⟨w.heap.size, 1, none⟩ = some (.int .u64 b) := (blk_cell N_2 1).trans rfl
      have Nc2 : w2.cell? ⟨w.heap.size, 2, none⟩ = some (.int .u64 c) := (blk_cell N_2 2).trans rfl
      have Ncf := blk_free N_2
      have Pc0 : w2.cell? ⟨w.heap.size + 1, 0, none⟩ = some (.int .u64 p) := (blk_cell P_2 0).trans rfl
      have Pcf := blk_free P_2
      have Qc0 : w2.cell? ⟨w.heap.size + 1 + 1, 0, none⟩ = some (.int .u64 q) := (blk_cell Q_2 0).trans rfl
      have Qcf := blk_free Q_2
      have Rc0 : w2.cell? ⟨w.heap.size + 1 + 1 + 1, 0, none⟩ = some (.int .u64 0) := (blk_cell R_2 0).trans rfl
      have Rc1 : w2.cell? ⟨w.heap.size + 1 + 1 + 1, 1, none⟩ = some (.int .u64 0) := (blk_cell R_2 1).trans rfl
      have Rcf := blk_free R_2
      have Sc0 : w2.cell? ⟨w.heap.size + 1 + 1 + 1 + 1, 0, none⟩ = some (.pointer (some ⟨w.heap.size + 1, 0, none⟩)) := (blk_cell S_2 0).trans rfl
      have Sc1 : w2.cell? ⟨w.heap.size + 1 + 1 + 1 + 1, 1, none⟩ = some (.pointer (some ⟨w.heap.size + 1 + 1, 0, none⟩)) := (blk_cell S_2 1).trans rfl
      have Scf := blk_free S_2
      have Nl2 : w.heap.size < w2.heap.size := by omega
      have Pl2 : w.heap.size + 1 < w2.heap.size := by omega
      have Ql2 : w.heap.size + 1 + 1 < w2.heap.size := by omega
      have Rl2 : w.heap.size + 1 + 1 + 1 < w2.heap.size := by omega
      have Sl2 : w.heap.size + 1 + 1 + 1 + 1 < w2.heap.size := by omega
      go_wp2_with fail
      refine (G1.out _).mono ?_
      rintro e w3 ⟨rfl, hb3⟩
      have hs3 := hb3.size
      try simp only [World.size_alloc, World.size_setCell] at hs3
      have N_3 : w3.heap[w.heap.size]? = some (.cells #[.int .u64 a, .int .u64 b, .int .u64 c] 63 (0, 0)) := below_at hb3 (by first | omega | (simp; done) | (simp; omega)) (by (repeat (first | (with_reducible assumption) | (with_reducible exact alloc_at _ _) | ((with_reducible apply alloc_at'); (simp; done)) | (with_reducible apply alloc_at_lt) | (with_reducible apply heap_drew_at) | (with_reducible apply heap_drewN_at) | (with_reducible apply heap_setCell_same) | ((with_reducible apply heap_set_ne); (first | omega | (dsimp only; omega) | (simp; done) | (simp; omega))) | (with_reducible apply setRow_at) | ((with_reducible apply setRow_ne); (first | omega | (dsimp only; omega) | (simp; done) | (simp; omega))))))
      have P_3 : w3.heap[w.heap.size + 1]? = some (.cells #[.int .u64 p] 22 (0, 0)) := below_at hb3 (by first | omega | (simp; done) | (simp; omega)) (by (repeat (first | (with_reducible assumption) | (with_reducible exact alloc_at _ _) | ((with_reducible apply alloc_at'); (simp; done)) | (with_reducible apply alloc_at_lt) | (with_reducible apply heap_drew_at) | (with_reducible apply heap_drewN_at) | (with_reducible apply heap_setCell_same) | ((with_reducible apply heap_set_ne); (first | omega | (dsimp only; omega) | (simp; done) | (simp; omega))) | (with_reducible apply setRow_at) | ((with_reducible apply setRow_ne); (first | omega | (dsimp only; omega) | (simp; done) | (simp; omega))))))
      have Q_3 : w3.heap[w.heap.size + 1 + 1]? = some (.cells #[.int .u64 q] 22 (0, 0)) := below_at hb3 (by first | omega | (simp; done) | (simp; omega)) (by (repeat (first | (with_reducible assumption) | (with_reducible exact alloc_at _ _) | ((with_reducible apply alloc_at'); (simp; done)) | (with_reducible apply alloc_at_lt) | (with_reducible apply heap_drew_at) | (with_reducible apply heap_drewN_at) | (with_reducible apply heap_setCell_same) | ((with_reducible apply heap_set_ne); (first | omega | (dsimp only; omega) | (simp; done) | (simp; omega))) | (with_reducible apply setRow_at) | ((with_reducible apply setRow_ne); (first | omega | (dsimp only; omega) | (simp; done) | (simp; omega))))))
      have R_3 : w3.heap[w.heap.size + 1 + 1 + 1]? = some (.cells #[.int .u64 0, .int .u64 0] 24 (0, 0)) := below_at hb3 (by first | omega | (simp; done) | (simp; omega)) (by (repeat (first | (with_reducible assumption) | (with_reducible exact alloc_at _ _) | ((with_reducible apply alloc_at'); (simp; done)) | (with_reducible apply alloc_at_lt) | (with_reducible apply heap_drew_at) | (with_reducible apply heap_drewN_at) | (with_reducible apply heap_setCell_same) | ((with_reducible apply heap_set_ne); (first | omega | (dsimp only; omega) | (simp; done) | (simp; omega))) | (with_reducible apply setRow_at) | ((with_reducible apply setRow_ne); (first | omega | (dsimp only; omega) | (simp; done) | (simp; omega))))))
      have S_3 : w3.heap[w.heap.size + 1 + 1 + 1 + 1]? = some (.cells #[.pointer (some ⟨w.heap.size + 1, 0, none⟩), .pointer (some ⟨w.heap.size + 1 + 1, 0, none⟩)] 72 (0, 0)) := below_at hb3 (by first | omega | (simp; done) | (simp; omega)) (by (repeat (first | (with_reducible assumption) | (with_reducible exact alloc_at _ _) | ((with_reducible apply alloc_at'); (simp; done)) | (with_reducible apply alloc_at_lt) | (with_reducible apply heap_drew_at) | (with_reducible apply heap_drewN_at) | (with_reducible apply heap_setCell_same) | ((with_reducible apply heap_set_ne); (first | omega | (dsimp only; omega) | (simp; done) | (simp; omega))) | (with_reducible apply setRow_at) | ((with_reducible apply setRow_ne); (first | omega | (dsimp only; omega) | (simp; done) | (simp; omega))))))
      have B3 : Below w.heap.size w w3 := Below.trans (by repeat (first | with_reducible assumption | with_reducible exact Below.refl _ _ | with_reducible refine Below.drew ?_ | with_reducible refine below_drewN ?_ _ | with_reducible refine below_alloc ?_ _ | with_reducible refine Below.alloc ?_ (by first | omega | (simp; done) | (simp; omega)) _ | with_reducible refine Below.setCell ?_ (by first | omega | (simp; done) | (simp; omega)) _ | with_reducible refine below_setRow ?_ (by first | omega | (simp; done) | (simp; omega)) _)) (hb3.mono (by first | omega | (simp; done) | (simp; omega)))
      clear hb3 N_2 P_2 Q_2 R_2 S_2
      clear Nc0 Nc1 Nc2 Ncf
      clear Pc0 Pcf
      clear Qc0 Qcf
      clear Rc0 Rc1 Rcf
      clear Sc0 Sc1 Scf
      have Nc0 : w3.cell? ⟨w.heap.size, 0, none⟩ = some (.int .u64 a) := (blk_cell N_3 0).trans rfl
      have Nc1 : w3.cell? ⟨w.heap.size, 1, none⟩ = some (.int .u64 b) := (blk_cell N_3 1).trans rfl
      have Nc2 : w3.cell? ⟨w.heap.size, 2, none⟩ = some (.int .u64 c) := (blk_cell N_3 2).trans rfl
      have Ncf := blk_free N_3
      have Pc0 : w3.cell? ⟨w.heap.size + 1, 0, none⟩ = some (.int .u64 p) := (blk_cell P_3 0).trans rfl
      have Pcf := blk_free P_3
      have Qc0 : w3.cell? ⟨w.heap.size + 1 + 1, 0, none⟩ = some (.int .u64 q) := (blk_cell Q_3 0).trans rfl
      have Qcf := blk_free Q_3
      have Rc0 : w3.cell? ⟨w.heap.size + 1 + 1 + 1, 0, none⟩ = some (.int .u64 0) := (blk_cell R_3 0).trans rfl
      have Rc1 : w3.cell? ⟨w.heap.size + 1 + 1 + 1, 1, none⟩ = some (.int .u64 0) := (blk_cell R_3 1).trans rfl
      have Rcf := blk_free R_3
      have Sc0 : w3.cell? ⟨w.heap.size + 1 + 1 + 1 + 1, 0, none⟩ = some (.pointer (some ⟨w.heap.size + 1, 0, none⟩)) := (blk_cell S_3 0).trans rfl
      have Sc1 : w3.cell? ⟨w.heap.size + 1 + 1 + 1 + 1, 1, none⟩ = some (.pointer (some ⟨w.heap.size + 1 + 1, 0, none⟩)) := (blk_cell S_3 1).trans rfl
      have Scf := blk_free S_3
      have Nl3 : w.heap.size < w3.heap.size := by omega
      have Pl3 : w.heap.size + 1 < w3.heap.size := by omega
      have Ql3 : w.heap.size + 1 + 1 < w3.heap.size := by omega
      have Rl3 : w.heap.size + 1 + 1 + 1 < w3.heap.size := by omega
      have Sl3 : w.heap.size + 1 + 1 + 1 + 1 < w3.heap.size := by omega
      go_wp2_with fail
      refine (D2.out _).mono ?_
      rintro e w4 ⟨rfl, hb4⟩
      have hs4 := hb4.size
      try simp only [World.size_alloc, World.size_setCell] at hs4
      have N_4 : w4.heap[w.heap.size]? = some (.cells #[.int .u64 a, .int .u64 b, .int .u64 c] 63 (0, 0)) := below_at hb4 (by first | omega | (simp; done) | (simp; omega)) (by (repeat (first | (with_reducible assumption) | (with_reducible exact alloc_at _ _) | ((with_reducible apply alloc_at'); (simp; done)) | (with_reducible apply alloc_at_lt) | (with_reducible apply heap_drew_at) | (with_reducible apply heap_drewN_at) | (with_reducible apply heap_setCell_same) | ((with_reducible apply heap_set_ne); (first | omega | (dsimp only; omega) | (simp; done) | (simp; omega))) | (with_reducible apply setRow_at) | ((with_reducible apply setRow_ne); (first | omega | (dsimp only; omega) | (simp; done) | (simp; omega))))))
      have P_4 : w4.heap[w.heap.size + 1]? = some (.cells #[.int .u64 p] 22 (0, 0)) := below_at hb4 (by first | omega | (simp; done) | (simp; omega)) (by (repeat (first | (with_reducible assumption) | (with_reducible exact alloc_at _ _) | ((with_reducible apply alloc_at'); (simp; done)) | (with_reducible apply alloc_at_lt) | (with_reducible apply heap_drew_at) | (with_reducible apply heap_drewN_at) | (with_reducible apply heap_setCell_same) | ((with_reducible apply heap_set_ne); (first | omega | (dsimp only; omega) | (simp; done) | (simp; omega))) | (with_reducible apply setRow_at) | ((with_reducible apply setRow_ne); (first | omega | (dsimp only; omega) | (simp; done) | (simp; omega))))))
      have Q_4 : w4.heap[w.heap.size + 1 + 1]? = some (.cells #[.int .u64 q] 22 (0, 0)) := below_at hb4 (by first | omega | (simp; done) | (simp; omega)) (by (repeat (first | (with_reducible assumption) | (with_reducible exact alloc_at _ _) | ((with_reducible apply alloc_at'); (simp; done)) | (with_reducible apply alloc_at_lt) | (with_reducible apply heap_drew_at) | (with_reducible apply heap_drewN_at) | (with_reducible apply heap_setCell_same) | ((with_reducible apply heap_set_ne); (first | omega | (dsimp only; omega) | (simp; done) | (simp; omega))) | (with_reducible apply setRow_at) | ((with_reducible apply setRow_ne); (first | omega | (dsimp only; omega) | (simp; done) | (simp; omega))))))
      have R_4 : w4.heap[w.heap.size + 1 + 1 + 1]? = some (.cells #[.int .u64 0, .int .u64 0] 24 (0, 0)) := below_at hb4 (by first | omega | (simp; done) | (simp; omega)) (by (repeat (first | (with_reducible assumption) | (with_reducible exact alloc_at _ _) | ((with_reducible apply alloc_at'); (simp; done)) | (with_reducible apply alloc_at_lt) | (with_reducible apply heap_drew_at) | (with_reducible apply heap_drewN_at) | (with_reducible apply heap_setCell_same) | ((with_reducible apply heap_set_ne); (first | omega | (dsimp only; omega) | (simp; done) | (simp; omega))) | (with_reducible apply setRow_at) | ((with_reducible apply setRow_ne); (first | omega | (dsimp only; omega) | (simp; done) | (simp; omega))))))
      have S_4 : w4.heap[w.heap.size + 1 + 1 + 1 + 1]? = some (.cells #[.pointer (some ⟨w.heap.size + 1, 0, none⟩), .pointer (some ⟨w.heap.size + 1 + 1, 0, none⟩)] 72 (0, 0)) := below_at hb4 (by first | omega | (simp; done) | (simp; omega)) (by (repeat (first | (with_reducible assumption) | (with_reducible exact alloc_at _ _) | ((with_reducible apply alloc_at'); (simp; done)) | (with_reducible apply alloc_at_lt) | (with_reducible apply heap_drew_at) | (with_reducible apply heap_drewN_at) | (with_reducible apply heap_setCell_same) | ((with_reducible apply heap_set_ne); (first | omega | (dsimp only; omega) | (simp; done) | (simp; omega))) | (with_reducible apply setRow_at) | ((with_reducible apply setRow_ne); (first | omega | (dsimp only; omega) | (simp; done) | (simp; omega))))))
      have B4 : Below w.heap.size w w4 := Below.trans (by repeat (first | with_reducible assumption | with_reducible exact Below.refl _ _ | with_reducible refine Below.drew ?_ | with_reducible refine below_drewN ?_ _ | with_reducible refine below_alloc ?_ _ | with_reducible refine Below.alloc ?_ (by first | omega | (simp; done) | (simp; omega)) _ | with_reducible refine Below.setCell ?_ (by first | omega | (simp; done) | (simp; omega)) _ | with_reducible refine below_setRow ?_ (by first | omega | (simp; done) | (simp; omega)) _)) (hb4.mono (by first | omega | (simp; done) | (simp; omega)))
      clear hb4 N_3 P_3 Q_3 R_3 S_3
      clear Nc0 Nc1 Nc2 Ncf
      clear Pc0 Pcf
      clear Qc0 Qcf
      clear Rc0 Rc1 Rcf
      clear Sc0 Sc1 Scf
      have Nc0 : w4.cell? ⟨w.heap.size, 0, none⟩ = some (.int .u64 a) := (blk_cell N_4 0).trans rfl
      have Nc1 : w4.cell? ⟨w.heap.size, 1, none⟩ = some (.int .u64 b) := (blk_cell N_4 1).trans rfl
      have Nc2 : w4.cell? ⟨w.heap.size, 2, none⟩ = some (.int .u64 c) := (blk_cell N_4 2).trans rfl
      have Ncf := blk_free N_4
      have Pc0 : w4.cell? ⟨w.heap.size + 1, 0, none⟩ = some (.int .u64 p) := (blk_cell P_4 0).trans rfl
      have Pcf := blk_free P_4
      have Qc0 : w4.cell? ⟨w.heap.size + 1 + 1, 0, none⟩ = some (.int .u64 q) := (blk_cell Q_4 0).trans rfl
      have Qcf := blk_free Q_4
      have Rc0 : w4.cell? ⟨w.heap.size + 1 + 1 + 1, 0, none⟩ = some (.int .u64 0) := (blk_cell R_4 0).trans rfl
      have Rc1 : w4.cell? ⟨w.heap.size + 1 + 1 + 1, 1, none⟩ = some (.int .u64 0) := (blk_cell R_4 1).trans rfl
      have Rcf := blk_free R_4
      have Sc0 : w4.cell? ⟨w.heap.size + 1 + 1 + 1 + 1, 0, none⟩ = some (.pointer (some ⟨w.heap.size + 1, 0, none⟩)) := (blk_cell S_4 0).trans rfl
      have Sc1 : w4.cell? ⟨w.heap.size + 1 + 1 + 1 + 1, 1, none⟩ = some (.pointer (some ⟨w.heap.size + 1 + 1, 0, none⟩)) := (blk_cell S_4 1).trans rfl
      have Scf := blk_free S_4
      have Nl4 : w.heap.size < w4.heap.size := by omega
      have Pl4 : w.heap.size + 1 < w4.heap.size := by omega
      have Ql4 : w.heap.size + 1 + 1 < w4.heap.size := by omega
      have Rl4 : w.heap.size + 1 + 1 + 1 < w4.heap.size := by omega
      have Sl4 : w.heap.size + 1 + 1 + 1 + 1 < w4.heap.size := by omega
      have hq_p1 := E1.out
      go_wp2_with fail
      clear hq_p1
      rw [rounds_succ]
      go_upto_region 3 with fail
      go_cut [9] (fun s wx => s = .pointer (some ⟨w.heap.size + 1 + 1, 0, none⟩) ∧ Below w.heap.size w wx ∧ wx.heap[w.heap.size]? = some (.cells #[.int .u64 a1, .int .u64 b1, .int .u64 c1] 63 (0, 0)) ∧ wx.heap[w.heap.size + 1]? = some (.cells #[.int .u64 p1] 22 (0, 0)) ∧ wx.heap[w.heap.size + 1 + 1]? = some (.cells #[.int .u64 q] 22 (0, 0)) ∧ wx.heap[w.heap.size + 1 + 1 + 1]? = some (.cells #[.int .u64 0, .int .u64 0] 24 (0, 0)) ∧ wx.heap[w.heap.size + 1 + 1 + 1 + 1]? = some (.cells #[.pointer (some ⟨w.heap.size + 1, 0, none⟩), .pointer (some ⟨w.heap.size + 1 + 1, 0, none⟩)] 72 (0, 0)))
      case first =>
        go_wp2
        go_meet
        exact ⟨rfl, (by repeat (first | with_reducible assumption | with_reducible exact Below.refl _ _ | with_reducible refine Below.drew ?_ | with_reducible refine below_drewN ?_ _ | with_reducible refine below_alloc ?_ _ | with_reducible refine Below.alloc ?_ (by first | omega | (simp; done) | (simp; omega)) _ | with_reducible refine Below.setCell ?_ (by first | omega | (simp; done) | (simp; omega)) _ | with_reducible refine below_setRow ?_ (by first | omega | (simp; done) | (simp; omega)) _)), (at_of (by apply Exists.intro; refine ⟨?_, ?_⟩; (focus ((repeat (first | (with_reducible assumption) | (with_reducible exact alloc_at _ _) | ((with_reducible apply alloc_at'); (simp; done)) | (with_reducible apply alloc_at_lt) | (with_reducible apply heap_drew_at) | (with_reducible apply heap_drewN_at) | (with_reducible apply heap_setCell_same) | ((with_reducible apply heap_set_ne); (first | omega | (dsimp only; omega) | (simp; done) | (simp; omega))) | (with_reducible apply setRow_at) | ((with_reducible apply setRow_ne); (first | omega | (dsimp only; omega) | (simp; done) | (simp; omega))))))); simp)), (at_of (by apply Exists.intro; refine ⟨?_, ?_⟩; (focus ((repeat (first | (with_reducible assumption) | (with_reducible exact alloc_at _ _) | ((with_reducible apply alloc_at'); (simp; done)) | (with_reducible apply alloc_at_lt) | (with_reducible apply heap_drew_at) | (with_reducible apply heap_drewN_at) | (with_reducible apply heap_setCell_same) | ((with_reducible apply heap_set_ne); (first | omega | (dsimp only; omega) | (simp; done) | (simp; omega))) | (with_reducible apply setRow_at) | ((with_reducible apply setRow_ne); (first | omega | (dsimp only; omega) | (simp; done) | (simp; omega))))))); simp)), (at_of (by apply Exists.intro; refine ⟨?_, ?_⟩; (focus ((repeat (first | (with_reducible assumption) | (with_reducible exact alloc_at _ _) | ((with_reducible apply alloc_at'); (simp; done)) | (with_reducible apply alloc_at_lt) | (with_reducible apply heap_drew_at) | (with_reducible apply heap_drewN_at) | (with_reducible apply heap_setCell_same) | ((with_reducible apply heap_set_ne); (first | omega | (dsimp only; omega) | (simp; done) | (simp; omega))) | (with_reducible apply setRow_at) | ((with_reducible apply setRow_ne); (first | omega | (dsimp only; omega) | (simp; done) | (simp; omega))))))); simp)), (at_of (by apply Exists.intro; refine ⟨?_, ?_⟩; (focus ((repeat (first | (with_reducible assumption) | (with_reducible exact alloc_at _ _) | ((with_reducible apply alloc_at'); (simp; done)) | (with_reducible apply alloc_at_lt) | (with_reducible apply heap_drew_at) | (with_reducible apply heap_drewN_at) | (with_reducible apply heap_setCell_same) | ((with_reducible apply heap_set_ne); (first | omega | (dsimp only; omega) | (simp; done) | (simp; omega))) | (with_reducible apply setRow_at) | ((with_reducible apply setRow_ne); (first | omega | (dsimp only; omega) | (simp; done) | (simp; omega))))))); simp)), (at_of (by apply Exists.intro; refine ⟨?_, ?_⟩; (focus ((repeat (first | (with_reducible assumption) | (with_reducible exact alloc_at _ _) | ((with_reducible apply alloc_at'); (simp; done)) | (with_reducible apply alloc_at_lt) | (with_reducible apply heap_drew_at) | (with_reducible apply heap_drewN_at) | (with_reducible apply heap_setCell_same) | ((with_reducible apply heap_set_ne); (first | omega | (dsimp only; omega) | (simp; done) | (simp; omega))) | (with_reducible apply setRow_at) | ((with_reducible apply setRow_ne); (first | omega | (dsimp only; omega) | (simp; done) | (simp; omega))))))); simp))⟩
      case rest =>
        obtain ⟨rfl, B5, N_5, P_5, Q_5, R_5, S_5⟩ := hcut
        obtain ⟨w5, rfl⟩ : ∃ x : World, x = wc := ⟨_, rfl⟩
        clear N_4
        clear P_4
        clear Q_4
        clear R_4
        clear S_4
        clear Nc0 Nc1 Nc2 Ncf
        clear Pc0 Pcf
        clear Qc0 Qcf
        clear Rc0 Rc1 Rcf
        clear Sc0 Sc1 Scf
        have Nc0 : w5.cell? ⟨w.heap.size, 0, none⟩ = some (.int .u64 a1) := (blk_cell N_5 0).trans rfl
        have Nc1 : w5.cell? ⟨w.heap.size, 1, none⟩ = some (.int .u64 b1) := (blk_cell N_5 1).trans rfl
        have Nc2 : w5.cell? ⟨w.heap.size, 2, none⟩ = some (.int .u64 c1) := (blk_cell N_5 2).trans rfl
        have Ncf := blk_free N_5
        have Pc0 : w5.cell? ⟨w.heap.size + 1, 0, none⟩ = some (.int .u64 p1) := (blk_cell P_5 0).trans rfl
        have Pcf := blk_free P_5
        have Qc0 : w5.cell? ⟨w.heap.size + 1 + 1, 0, none⟩ = some (.int .u64 q) := (blk_cell Q_5 0).trans rfl
        have Qcf := blk_free Q_5
        have Rc0 : w5.cell? ⟨w.heap.size + 1 + 1 + 1, 0, none⟩ = some (.int .u64 0) := (blk_cell R_5 0).trans rfl
        have Rc1 : w5.cell? ⟨w.heap.size + 1 + 1 + 1, 1, none⟩ = some (.int .u64 0) := (blk_cell R_5 1).trans rfl
        have Rcf := blk_free R_5
        have Sc0 : w5.cell? ⟨w.heap.size + 1 + 1 + 1 + 1, 0, none⟩ = some (.pointer (some ⟨w.heap.size + 1, 0, none⟩)) := (blk_cell S_5 0).trans rfl
        have Sc1 : w5.cell? ⟨w.heap.size + 1 + 1 + 1 + 1, 1, none⟩ = some (.pointer (some ⟨w.heap.size + 1 + 1, 0, none⟩)) := (blk_cell S_5 1).trans rfl
        have Scf := blk_free S_5
        have Nl5 : w.heap.size < w5.heap.size := lt_of_at N_5
        have Pl5 : w.heap.size + 1 < w5.heap.size := lt_of_at P_5
        have Ql5 : w.heap.size + 1 + 1 < w5.heap.size := lt_of_at Q_5
        have Rl5 : w.heap.size + 1 + 1 + 1 < w5.heap.size := lt_of_at R_5
        have Sl5 : w.heap.size + 1 + 1 + 1 + 1 < w5.heap.size := lt_of_at S_5
        go_upto_region 4 with fail
        go_cut [11] (fun s0_ wx => s0_ = .int .u64 r2 ∧ Below w5.heap.size w5 wx)
        case first =>
          go_region_held3 (fun w' => Below w5.heap.size w5 w' ∧ (∀ b o, b < w5.heap.size → w'.cell? ⟨b, o, none⟩ = w5.cell? ⟨b, o, none⟩) ∧ ∀ b o, b < w5.heap.size → w'.frozen? ⟨b, o, none⟩ = w5.frozen? ⟨b, o, none⟩) (first | ((try go_split_ands); (try dsimp only); refine same_of ?_; (repeat (first | with_reducible assumption | with_reducible exact Below.refl _ _ | with_reducible refine Below.drew ?_ | with_reducible refine below_drewN ?_ _ | with_reducible refine below_alloc ?_ _ | with_reducible refine Below.alloc ?_ (by first | omega | (simp; done) | (simp; omega)) _ | with_reducible refine Below.setCell ?_ (by first | omega | (simp; done) | (simp; omega)) _ | with_reducible refine below_setRow ?_ (by first | omega | (simp; done) | (simp; omega)) _)); done) | ((try go_split_ands); (try dsimp only); refine same_of ?_; (repeat (first | with_reducible refine below_call ?_ hb99 | with_reducible assumption | with_reducible exact Below.refl _ _ | with_reducible refine Below.drew ?_ | with_reducible refine below_alloc ?_ _)); done)) (first | (go_at_call 44; refine (D3.out _).mono ?_; rintro e w99 ⟨rfl, hb99⟩; obtain ⟨hc99, hf99⟩ := bcell hb99))
          all_goals
            obtain ⟨hb98, -, -⟩ : Below w5.heap.size w5 _ ∧ _ ∧ _ := by assumption
            go_wp2_with fail
            go_meet
            exact ⟨by first | rfl | (simp; done) | (simp; omega), hb98⟩
        case rest =>
          obtain ⟨rfl, hb6⟩ := hcut
          obtain ⟨w6, rfl⟩ : ∃ x : World, x = wc := ⟨_, rfl⟩
          have hs6 := hb6.size
          try simp only [World.size_alloc, World.size_setCell] at hs6
          have N_6 : w6.heap[w.heap.size]? = some (.cells #[.int .u64 a1, .int .u64 b1, .int .u64 c1] 63 (0, 0)) := below_at hb6 (by first | omega | (simp; done) | (simp; omega)) (by (repeat (first | (with_reducible assumption) | (with_reducible exact alloc_at _ _) | ((with_reducible apply alloc_at'); (simp; done)) | (with_reducible apply alloc_at_lt) | (with_reducible apply heap_drew_at) | (with_reducible apply heap_drewN_at) | (with_reducible apply heap_setCell_same) | ((with_reducible apply heap_set_ne); (first | omega | (dsimp only; omega) | (simp; done) | (simp; omega))) | (with_reducible apply setRow_at) | ((with_reducible apply setRow_ne); (first | omega | (dsimp only; omega) | (simp; done) | (simp; omega))))))
          have P_6 : w6.heap[w.heap.size + 1]? = some (.cells #[.int .u64 p1] 22 (0, 0)) := below_at hb6 (by first | omega | (simp; done) | (simp; omega)) (by (repeat (first | (with_reducible assumption) | (with_reducible exact alloc_at _ _) | ((with_reducible apply alloc_at'); (simp; done)) | (with_reducible apply alloc_at_lt) | (with_reducible apply heap_drew_at) | (with_reducible apply heap_drewN_at) | (with_reducible apply heap_setCell_same) | ((with_reducible apply heap_set_ne); (first | omega | (dsimp only; omega) | (simp; done) | (simp; omega))) | (with_reducible apply setRow_at) | ((with_reducible apply setRow_ne); (first | omega | (dsimp only; omega) | (simp; done) | (simp; omega))))))
          have Q_6 : w6.heap[w.heap.size + 1 + 1]? = some (.cells #[.int .u64 q] 22 (0, 0)) := below_at hb6 (by first | omega | (simp; done) | (simp; omega)) (by (repeat (first | (with_reducible assumption) | (with_reducible exact alloc_at _ _) | ((with_reducible apply alloc_at'); (simp; done)) | (with_reducible apply alloc_at_lt) | (with_reducible apply heap_drew_at) | (with_reducible apply heap_drewN_at) | (with_reducible apply heap_setCell_same) | ((with_reducible apply heap_set_ne); (first | omega | (dsimp only; omega) | (simp; done) | (simp; omega))) | (with_reducible apply setRow_at) | ((with_reducible apply setRow_ne); (first | omega | (dsimp only; omega) | (simp; done) | (simp; omega))))))
          have R_6 : w6.heap[w.heap.size + 1 + 1 + 1]? = some (.cells #[.int .u64 0, .int .u64 0] 24 (0, 0)) := below_at hb6 (by first | omega | (simp; done) | (simp; omega)) (by (repeat (first | (with_reducible assumption) | (with_reducible exact alloc_at _ _) | ((with_reducible apply alloc_at'); (simp; done)) | (with_reducible apply alloc_at_lt) | (with_reducible apply heap_drew_at) | (with_reducible apply heap_drewN_at) | (with_reducible apply heap_setCell_same) | ((with_reducible apply heap_set_ne); (first | omega | (dsimp only; omega) | (simp; done) | (simp; omega))) | (with_reducible apply setRow_at) | ((with_reducible apply setRow_ne); (first | omega | (dsimp only; omega) | (simp; done) | (simp; omega))))))
          have S_6 : w6.heap[w.heap.size + 1 + 1 + 1 + 1]? = some (.cells #[.pointer (some ⟨w.heap.size + 1, 0, none⟩), .pointer (some ⟨w.heap.size + 1 + 1, 0, none⟩)] 72 (0, 0)) := below_at hb6 (by first | omega | (simp; done) | (simp; omega)) (by (repeat (first | (with_reducible assumption) | (with_reducible exact alloc_at _ _) | ((with_reducible apply alloc_at'); (simp; done)) | (with_reducible apply alloc_at_lt) | (with_reducible apply heap_drew_at) | (with_reducible apply heap_drewN_at) | (with_reducible apply heap_setCell_same) | ((with_reducible apply heap_set_ne); (first | omega | (dsimp only; omega) | (simp; done) | (simp; omega))) | (with_reducible apply setRow_at) | ((with_reducible apply setRow_ne); (first | omega | (dsimp only; omega) | (simp; done) | (simp; omega))))))
          have B6 : Below w.heap.size w w6 := Below.trans (by repeat (first | with_reducible assumption | with_reducible exact Below.refl _ _ | with_reducible refine Below.drew ?_ | with_reducible refine below_drewN ?_ _ | with_reducible refine below_alloc ?_ _ | with_reducible refine Below.alloc ?_ (by first | omega | (simp; done) | (simp; omega)) _ | with_reducible refine Below.setCell ?_ (by first | omega | (simp; done) | (simp; omega)) _ | with_reducible refine below_setRow ?_ (by first | omega | (simp; done) | (simp; omega)) _)) (hb6.mono (by first | omega | (simp; done) | (simp; omega)))
          clear hb6 N_5 P_5 Q_5 R_5 S_5
          clear Nc0 Nc1 Nc2 Ncf
          clear Pc0 Pcf
          clear Qc0 Qcf
          clear Rc0 Rc1 Rcf
          clear Sc0 Sc1 Scf
          have Nc0 : w6.cell? ⟨w.heap.size, 0, none⟩ = some (.int .u64 a1) := (blk_cell N_6 0).trans rfl
          have Nc1 : w6.cell? ⟨w.heap.size, 1, none⟩ = some (.int .u64 b1) := (blk_cell N_6 1).trans rfl
          have Nc2 : w6.cell? ⟨w.heap.size, 2, none⟩ = some (.int .u64 c1) := (blk_cell N_6 2).trans rfl
          have Ncf := blk_free N_6
          have Pc0 : w6.cell? ⟨w.heap.size + 1, 0, none⟩ = some (.int .u64 p1) := (blk_cell P_6 0).trans rfl
          have Pcf := blk_free P_6
          have Qc0 : w6.cell? ⟨w.heap.size + 1 + 1, 0, none⟩ = some (.int .u64 q) := (blk_cell Q_6 0).trans rfl
          have Qcf := blk_free Q_6
          have Rc0 : w6.cell? ⟨w.heap.size + 1 + 1 + 1, 0, none⟩ = some (.int .u64 0) := (blk_cell R_6 0).trans rfl
          have Rc1 : w6.cell? ⟨w.heap.size + 1 + 1 + 1, 1, none⟩ = some (.int .u64 0) := (blk_cell R_6 1).trans rfl
          have Rcf := blk_free R_6
          have Sc0 : w6.cell? ⟨w.heap.size + 1 + 1 + 1 + 1, 0, none⟩ = some (.pointer (some ⟨w.heap.size + 1, 0, none⟩)) := (blk_cell S_6 0).trans rfl
          have Sc1 : w6.cell? ⟨w.heap.size + 1 + 1 + 1 + 1, 1, none⟩ = some (.pointer (some ⟨w.heap.size + 1 + 1, 0, none⟩)) := (blk_cell S_6 1).trans rfl
          have Scf := blk_free S_6
          have Nl6 : w.heap.size < w6.heap.size := by omega
          have Pl6 : w.heap.size + 1 < w6.heap.size := by omega
          have Ql6 : w.heap.size + 1 + 1 < w6.heap.size := by omega
          have Rl6 : w.heap.size + 1 + 1 + 1 < w6.heap.size := by omega
          have Sl6 : w.heap.size + 1 + 1 + 1 + 1 < w6.heap.size := by omega
          go_wp2_with fail
          refine (G2.out _).mono ?_
          rintro e w7 ⟨rfl, hb7⟩
          have hs7 := hb7.size
          try simp only [World.size_alloc, World.size_setCell] at hs7
          have N_7 : w7.heap[w.heap.size]? = some (.cells #[.int .u64 a1, .int .u64 b1, .int .u64 c1] 63 (0, 0)) := below_at hb7 (by first | omega | (simp; done) | (simp; omega)) (by (repeat (first | (with_reducible assumption) | (with_reducible exact alloc_at _ _) | ((with_reducible apply alloc_at'); (simp; done)) | (with_reducible apply alloc_at_lt) | (with_reducible apply heap_drew_at) | (with_reducible apply heap_drewN_at) | (with_reducible apply heap_setCell_same) | ((with_reducible apply heap_set_ne); (first | omega | (dsimp only; omega) | (simp; done) | (simp; omega))) | (with_reducible apply setRow_at) | ((with_reducible apply setRow_ne); (first | omega | (dsimp only; omega) | (simp; done) | (simp; omega))))))
          have P_7 : w7.heap[w.heap.size + 1]? = some (.cells #[.int .u64 p1] 22 (0, 0)) := below_at hb7 (by first | omega | (simp; done) | (simp; omega)) (by (repeat (first | (with_reducible assumption) | (with_reducible exact alloc_at _ _) | ((with_reducible apply alloc_at'); (simp; done)) | (with_reducible apply alloc_at_lt) | (with_reducible apply heap_drew_at) | (with_reducible apply heap_drewN_at) | (with_reducible apply heap_setCell_same) | ((with_reducible apply heap_set_ne); (first | omega | (dsimp only; omega) | (simp; done) | (simp; omega))) | (with_reducible apply setRow_at) | ((with_reducible apply setRow_ne); (first | omega | (dsimp only; omega) | (simp; done) | (simp; omega))))))
          have Q_7 : w7.heap[w.heap.size + 1 + 1]? = some (.cells #[.int .u64 q] 22 (0, 0)) := below_at hb7 (by first | omega | (simp; done) | (simp; omega)) (by (repeat (first | (with_reducible assumption) | (with_reducible exact alloc_at _ _) | ((with_reducible apply alloc_at'); (simp; done)) | (with_reducible apply alloc_at_lt) | (with_reducible apply heap_drew_at) | (with_reducible apply heap_drewN_at) | (with_reducible apply heap_setCell_same) | ((with_reducible apply heap_set_ne); (first | omega | (dsimp only; omega) | (simp; done) | (simp; omega))) | (with_reducible apply setRow_at) | ((with_reducible apply setRow_ne); (first | omega | (dsimp only; omega) | (simp; done) | (simp; omega))))))
          have R_7 : w7.heap[w.heap.size + 1 + 1 + 1]? = some (.cells #[.int .u64 0, .int .u64 0] 24 (0, 0)) := below_at hb7 (by first | omega | (simp; done) | (simp; omega)) (by (repeat (first | (with_reducible assumption) | (with_reducible exact alloc_at _ _) | ((with_reducible apply alloc_at'); (simp; done)) | (with_reducible apply alloc_at_lt) | (with_reducible apply heap_drew_at) | (with_reducible apply heap_drewN_at) | (with_reducible apply heap_setCell_same) | ((with_reducible apply heap_set_ne); (first | omega | (dsimp only; omega) | (simp; done) | (simp; omega))) | (with_reducible apply setRow_at) | ((with_reducible apply setRow_ne); (first | omega | (dsimp only; omega) | (simp; done) | (simp; omega))))))
          have S_7 : w7.heap[w.heap.size + 1 + 1 + 1 + 1]? = some (.cells #[.pointer (some ⟨w.heap.size + 1, 0, none⟩), .pointer (some ⟨w.heap.size + 1 + 1, 0, none⟩)] 72 (0, 0)) := below_at hb7 (by first | omega | (simp; done) | (simp; omega)) (by (repeat (first | (with_reducible assumption) | (with_reducible exact alloc_at _ _) | ((with_reducible apply alloc_at'); (simp; done)) | (with_reducible apply alloc_at_lt) | (with_reducible apply heap_drew_at) | (with_reducible apply heap_drewN_at) | (with_reducible apply heap_setCell_same) | ((with_reducible apply heap_set_ne); (first | omega | (dsimp only; omega) | (simp; done) | (simp; omega))) | (with_reducible apply setRow_at) | ((with_reducible apply setRow_ne); (first | omega | (dsimp only; omega) | (simp; done) | (simp; omega))))))
          have B7 : Below w.heap.size w w7 := Below.trans (by repeat (first | with_reducible assumption | with_reducible exact Below.refl _ _ | with_reducible refine Below.drew ?_ | with_reducible refine below_drewN ?_ _ | with_reducible refine below_alloc ?_ _ | with_reducible refine Below.alloc ?_ (by first | omega | (simp; done) | (simp; omega)) _ | with_reducible refine Below.setCell ?_ (by first | omega | (simp; done) | (simp; omega)) _ | with_reducible refine below_setRow ?_ (by first | omega | (simp; done) | (simp; omega)) _)) (hb7.mono (by first | omega | (simp; done) | (simp; omega)))
          clear hb7 N_6 P_6 Q_6 R_6 S_6
          clear Nc0 Nc1 Nc2 Ncf
          clear Pc0 Pcf
          clear Qc0 Qcf
          clear Rc0 Rc1 Rcf
          clear Sc0 Sc1 Scf
          have Nc0 : w7.cell? ⟨w.heap.size, 0, none⟩ = some (.int .u64 a1) := (blk_cell N_7 0).trans rfl
          have Nc1 : w7.cell? ⟨w.heap.size, 1, none⟩ = some (.int .u64 b1) := (blk_cell N_7 1).trans rfl
          have Nc2 : w7.cell? ⟨w.heap.size, 2, none⟩ = some (.int .u64 c1) := (blk_cell N_7 2).trans rfl
          have Ncf := blk_free N_7
          have Pc0 : w7.cell? ⟨w.heap.size + 1, 0, none⟩ = some (.int .u64 p1) := (blk_cell P_7 0).trans rfl
          have Pcf := blk_free P_7
          have Qc0 : w7.cell? ⟨w.heap.size + 1 + 1, 0, none⟩ = some (.int .u64 q) := (blk_cell Q_7 0).trans rfl
          have Qcf := blk_free Q_7
          have Rc0 : w7.cell? ⟨w.heap.size + 1 + 1 + 1, 0, none⟩ = some (.int .u64 0) := (blk_cell R_7 0).trans rfl
          have Rc1 : w7.cell? ⟨w.heap.size + 1 + 1 + 1, 1, none⟩ = some (.int .u64 0) := (blk_cell R_7 1).trans rfl
          have Rcf := blk_free R_7
          have Sc0 : w7.cell? ⟨w.heap.size + 1 + 1 + 1 + 1, 0, none⟩ = some (.pointer (some ⟨w.heap.size + 1, 0, none⟩)) := (blk_cell S_7 0).trans rfl
          have Sc1 : w7.cell? ⟨w.heap.size + 1 + 1 + 1 + 1, 1, none⟩ = some (.pointer (some ⟨w.heap.size + 1 + 1, 0, none⟩)) := (blk_cell S_7 1).trans rfl
          have Scf := blk_free S_7
          have Nl7 : w.heap.size < w7.heap.size := by omega
          have Pl7 : w.heap.size + 1 < w7.heap.size := by omega
          have Ql7 : w.heap.size + 1 + 1 < w7.heap.size := by omega
          have Rl7 : w.heap.size + 1 + 1 + 1 < w7.heap.size := by omega
          have Sl7 : w.heap.size + 1 + 1 + 1 + 1 < w7.heap.size := by omega
          go_wp2_with fail
          refine (D4.out _).mono ?_
          rintro e w8 ⟨rfl, hb8⟩
          have hs8 := hb8.size
          try simp only [World.size_alloc, World.size_setCell] at hs8
          have N_8 : w8.heap[w.heap.size]? = some (.cells #[.int .u64 a1, .int .u64 b1, .int .u64 c1] 63 (0, 0)) := below_at hb8 (by first | omega | (simp; done) | (simp; omega)) (by (repeat (first | (with_reducible assumption) | (with_reducible exact alloc_at _ _) | ((with_reducible apply alloc_at'); (simp; done)) | (with_reducible apply alloc_at_lt) | (with_reducible apply heap_drew_at) | (with_reducible apply heap_drewN_at) | (with_reducible apply heap_setCell_same) | ((with_reducible apply heap_set_ne); (first | omega | (dsimp only; omega) | (simp; done) | (simp; omega))) | (with_reducible apply setRow_at) | ((with_reducible apply setRow_ne); (first | omega | (dsimp only; omega) | (simp; done) | (simp; omega))))))
          have P_8 : w8.heap[w.heap.size + 1]? = some (.cells #[.int .u64 p1] 22 (0, 0)) := below_at hb8 (by first | omega | (simp; done) | (simp; omega)) (by (repeat (first | (with_reducible assumption) | (with_reducible exact alloc_at _ _) | ((with_reducible apply alloc_at'); (simp; done)) | (with_reducible apply alloc_at_lt) | (with_reducible apply heap_drew_at) | (with_reducible apply heap_drewN_at) | (with_reducible apply heap_setCell_same) | ((with_reducible apply heap_set_ne); (first | omega | (dsimp only; omega) | (simp; done) | (simp; omega))) | (with_reducible apply setRow_at) | ((with_reducible apply setRow_ne); (first | omega | (dsimp only; omega) | (simp; done) | (simp; omega))))))
          have Q_8 : w8.heap[w.heap.size + 1 + 1]? = some (.cells #[.int .u64 q] 22 (0, 0)) := below_at hb8 (by first | omega | (simp; done) | (simp; omega)) (by (repeat (first | (with_reducible assumption) | (with_reducible exact alloc_at _ _) | ((with_reducible apply alloc_at'); (simp; done)) | (with_reducible apply alloc_at_lt) | (with_reducible apply heap_drew_at) | (with_reducible apply heap_drewN_at) | (with_reducible apply heap_setCell_same) | ((with_reducible apply heap_set_ne); (first | omega | (dsimp only; omega) | (simp; done) | (simp; omega))) | (with_reducible apply setRow_at) | ((with_reducible apply setRow_ne); (first | omega | (dsimp only; omega) | (simp; done) | (simp; omega))))))
          have R_8 : w8.heap[w.heap.size + 1 + 1 + 1]? = some (.cells #[.int .u64 0, .int .u64 0] 24 (0, 0)) := below_at hb8 (by first | omega | (simp; done) | (simp; omega)) (by (repeat (first | (with_reducible assumption) | (with_reducible exact alloc_at _ _) | ((with_reducible apply alloc_at'); (simp; done)) | (with_reducible apply alloc_at_lt) | (with_reducible apply heap_drew_at) | (with_reducible apply heap_drewN_at) | (with_reducible apply heap_setCell_same) | ((with_reducible apply heap_set_ne); (first | omega | (dsimp only; omega) | (simp; done) | (simp; omega))) | (with_reducible apply setRow_at) | ((with_reducible apply setRow_ne); (first | omega | (dsimp only; omega) | (simp; done) | (simp; omega))))))
          have S_8 : w8.heap[w.heap.size + 1 + 1 + 1 + 1]? = some (.cells #[.pointer (some ⟨w.heap.size + 1, 0, none⟩), .pointer (some ⟨w.heap.size + 1 + 1, 0, none⟩)] 72 (0, 0)) := below_at hb8 (by first | omega | (simp; done) | (simp; omega)) (by (repeat (first | (with_reducible assumption) | (with_reducible exact alloc_at _ _) | ((with_reducible apply alloc_at'); (simp; done)) | (with_reducible apply alloc_at_lt) | (with_reducible apply heap_drew_at) | (with_reducible apply heap_drewN_at) | (with_reducible apply heap_setCell_same) | ((with_reducible apply heap_set_ne); (first | omega | (dsimp only; omega) | (simp; done) | (simp; omega))) | (with_reducible apply setRow_at) | ((with_reducible apply setRow_ne); (first | omega | (dsimp only; omega) | (simp; done) | (simp; omega))))))
          have B8 : Below w.heap.size w w8 := Below.trans (by repeat (first | with_reducible assumption | with_reducible exact Below.refl _ _ | with_reducible refine Below.drew ?_ | with_reducible refine below_drewN ?_ _ | with_reducible refine below_alloc ?_ _ | with_reducible refine Below.alloc ?_ (by first | omega | (simp; done) | (simp; omega)) _ | with_reducible refine Below.setCell ?_ (by first | omega | (simp; done) | (simp; omega)) _ | with_reducible refine below_setRow ?_ (by first | omega | (simp; done) | (simp; omega)) _)) (hb8.mono (by first | omega | (simp; done) | (simp; omega)))
          clear hb8 N_7 P_7 Q_7 R_7 S_7
          clear Nc0 Nc1 Nc2 Ncf
          clear Pc0 Pcf
          clear Qc0 Qcf
          clear Rc0 Rc1 Rcf
          clear Sc0 Sc1 Scf
          have Nc0 : w8.cell? ⟨w.heap.size, 0, none⟩ = some (.int .u64 a1) := (blk_cell N_8 0).trans rfl
          have Nc1 : w8.cell? ⟨w.heap.size, 1, none⟩ = some (.int .u64 b1) := (blk_cell N_8 1).trans rfl
          have Nc2 : w8.cell? ⟨w.heap.size, 2, none⟩ = some (.int .u64 c1) := (blk_cell N_8 2).trans rfl
          have Ncf := blk_free N_8
          have Pc0 : w8.cell? ⟨w.heap.size + 1, 0, none⟩ = some (.int .u64 p1) := (blk_cell P_8 0).trans rfl
          have Pcf := blk_free P_8
          have Qc0 : w8.cell? ⟨w.heap.size + 1 + 1, 0, none⟩ = some (.int .u64 q) := (blk_cell Q_8 0).trans rfl
          have Qcf := blk_free Q_8
          have Rc0 : w8.cell? ⟨w.heap.size + 1 + 1 + 1, 0, none⟩ = some (.int .u64 0) := (blk_cell R_8 0).trans rfl
          have Rc1 : w8.cell? ⟨w.heap.size + 1 + 1 + 1, 1, none⟩ = some (.int .u64 0) := (blk_cell R_8 1).trans rfl
          have Rcf := blk_free R_8
          have Sc0 : w8.cell? ⟨w.heap.size + 1 + 1 + 1 + 1, 0, none⟩ = some (.pointer (some ⟨w.heap.size + 1, 0, none⟩)) := (blk_cell S_8 0).trans rfl
          have Sc1 : w8.cell? ⟨w.heap.size + 1 + 1 + 1 + 1, 1, none⟩ = some (.pointer (some ⟨w.heap.size + 1 + 1, 0, none⟩)) := (blk_cell S_8 1).trans rfl
          have Scf := blk_free S_8
          have Nl8 : w.heap.size < w8.heap.size := by omega
          have Pl8 : w.heap.size + 1 < w8.heap.size := by omega
          have Ql8 : w.heap.size + 1 + 1 < w8.heap.size := by omega
          have Rl8 : w.heap.size + 1 + 1 + 1 < w8.heap.size := by omega
          have Sl8 : w.heap.size + 1 + 1 + 1 + 1 < w8.heap.size := by omega
          have hq_q1 := E2.out
          go_wp2_with fail
          clear hq_q1
          rw [rounds_succ]
          go_wp2_with fail
          refine (HM.out _).mono ?_
          rintro e wz ⟨rfl, rfl⟩
          go_wp2
          refine ret_row2 rfl (w.heap.size + 1 + 1 + 1) #[.int .u64 0, .int .u64 0] 24 _ rfl Try.underlying24 rfl infoR rfl (by apply Exists.intro; refine ⟨?_, ?_⟩; (focus ((repeat (first | (with_reducible assumption) | (with_reducible exact alloc_at _ _) | ((with_reducible apply alloc_at'); (simp; done)) | (with_reducible apply alloc_at_lt) | (with_reducible apply heap_drew_at) | (with_reducible apply heap_drewN_at) | (with_reducible apply heap_setCell_same) | ((with_reducible apply heap_set_ne); (first | omega | (dsimp only; omega) | (simp; done) | (simp; omega))) | (with_reducible apply setRow_at) | ((with_reducible apply setRow_ne); (first | omega | (dsimp only; omega) | (simp; done) | (simp; omega))))))); simp) ⟨rfl, (by repeat (first | with_reducible assumption | with_reducible exact Below.refl _ _ | with_reducible refine Below.drew ?_ | with_reducible refine below_drewN ?_ _ | with_reducible refine below_alloc ?_ _ | with_reducible refine Below.alloc ?_ (by first | omega | (simp; done) | (simp; omega)) _ | with_reducible refine Below.setCell ?_ (by first | omega | (simp; done) | (simp; omega)) _ | with_reducible refine below_setRow ?_ (by first | omega | (simp; done) | (simp; omega)) _))⟩
set_option maxRecDepth 100000 in
set_option maxHeartbeats 4000000 in
theorem over_b (a b c p q r1 g1 a1 b1 c1 v1 p1 r2 g2 a2 b2 c2 v2 q1 h l u0 u1 u2 u3 u4 u5 : Int) (w : World) (bp : 0 ≤ p) (bg1 : 1 ≤ g1) (bq : 0 ≤ q) (bg2 : 1 ≤ g2) (bp1 : 0 ≤ p1) (bp2 : p1 ≤ 18446744073709551615) (bq1 : 0 ≤ q1) (bq2 : q1 ≤ 18446744073709551615) (hs : (a2 != 0) = false) (ht : (b2 != 0) = true)
    (D1 : Hid (∀ W, Calls Try.prog 44 #[.agg #[.int .u64 a, .int .u64 b, .int .u64 c], .int .u64 p] W fun e w' => e = .returned (.tuple #[.agg #[.int .u64 u0, .int .u64 u1, .int .u64 u2], .int .u64 r1]) ∧ Below W.heap.size W w')) (G1 : Hid (∀ W, Calls Try.prog 32 #[.int .u64 p, .int .u64 r1] W fun e w' => e = .returned (.int .u64 g1) ∧ Below W.heap.size W w')) (D2 : Hid (∀ W, Calls Try.prog 44 #[.agg #[.int .u64 a, .int .u64 b, .int .u64 c], .int .u64 g1] W fun e w' => e = .returned (.tuple #[.agg #[.int .u64 a1, .int .u64 b1, .int .u64 c1], .int .u64 v1]) ∧ Below W.heap.size W w')) (E1 : Hid (IntKind.u64.wrap (p.tdiv g1) = p1))
    (D3 : Hid (∀ W, Calls Try.prog 44 #[.agg #[.int .u64 a1, .int .u64 b1, .int .u64 c1], .int .u64 q] W fun e w' => e = .returned (.tuple #[.agg #[.int .u64 u3, .int .u64 u4, .int .u64 u5], .int .u64 r2]) ∧ Below W.heap.size W w')) (G2 : Hid (∀ W, Calls Try.prog 32 #[.int .u64 q, .int .u64 r2] W fun e w' => e = .returned (.int .u64 g2) ∧ Below W.heap.size W w')) (D4 : Hid (∀ W, Calls Try.prog 44 #[.agg #[.int .u64 a1, .int .u64 b1, .int .u64 c1], .int .u64 g2] W fun e w' => e = .returned (.tuple #[.agg #[.int .u64 a2, .int .u64 b2, .int .u64 c2], .int .u64 v2]) ∧ Below W.heap.size W w')) (E2 : Hid (IntKind.u64.wrap (q.tdiv g2) = q1))
    (HM : Hid (∀ W, Calls Try.prog 22 #[.int .u64 p1, .int .u64 q1] W fun e w' => e = .returned (.tuple #[.int .u64 h, .int .u64 l]) ∧ W = w')) :
    Calls Try.prog 38 #[.agg #[.int .u64 a, .int .u64 b, .int .u64 c], .int .u64 p, .int .u64 q] w fun e w' => e = .returned (.tuple #[.agg #[.int .u64 0, .int .u64 0], .int .i64 7]) ∧ Below w.heap.size w w' := by
  go_enter Try.func38, Try.ntmps38
  go_wp2_with fail
  refine wp_loop_rounds 3 ?_
  rw [rounds_succ]
  go_upto_region 3 with fail
  go_cut [9] (fun s wx => s = .pointer (some ⟨w.heap.size + 1, 0, none⟩) ∧ Below w.heap.size w wx ∧ wx.heap[w.heap.size]? = some (.cells #[.int .u64 a, .int .u64 b, .int .u64 c] 63 (0, 0)) ∧ wx.heap[w.heap.size + 1]? = some (.cells #[.int .u64 p] 22 (0, 0)) ∧ wx.heap[w.heap.size + 1 + 1]? = some (.cells #[.int .u64 q] 22 (0, 0)) ∧ wx.heap[w.heap.size + 1 + 1 + 1]? = some (.cells #[.int .u64 0, .int .u64 0] 24 (0, 0)) ∧ wx.heap[w.heap.size + 1 + 1 + 1 + 1]? = some (.cells #[.pointer (some ⟨w.heap.size + 1, 0, none⟩), .pointer (some ⟨w.heap.size + 1 + 1, 0, none⟩)] 72 (0, 0)))
  case first =>
    go_wp2
    go_meet
    exact ⟨rfl, (by repeat (first | with_reducible assumption | with_reducible exact Below.refl _ _ | with_reducible refine Below.drew ?_ | with_reducible refine below_drewN ?_ _ | with_reducible refine below_alloc ?_ _ | with_reducible refine Below.alloc ?_ (by first | omega | (simp; done) | (simp; omega)) _ | with_reducible refine Below.setCell ?_ (by first | omega | (simp; done) | (simp; omega)) _ | with_reducible refine below_setRow ?_ (by first | omega | (simp; done) | (simp; omega)) _)), (at_of (by apply Exists.intro; refine ⟨?_, ?_⟩; (focus ((repeat (first | (with_reducible assumption) | (with_reducible exact alloc_at _ _) | ((with_reducible apply alloc_at'); (simp; done)) | (with_reducible apply alloc_at_lt) | (with_reducible apply heap_drew_at) | (with_reducible apply heap_drewN_at) | (with_reducible apply heap_setCell_same) | ((with_reducible apply heap_set_ne); (first | omega | (dsimp only; omega) | (simp; done) | (simp; omega))) | (with_reducible apply setRow_at) | ((with_reducible apply setRow_ne); (first | omega | (dsimp only; omega) | (simp; done) | (simp; omega))))))); simp)), (at_of (by apply Exists.intro; refine ⟨?_, ?_⟩; (focus ((repeat (first | (with_reducible assumption) | (with_reducible exact alloc_at _ _) | ((with_reducible apply alloc_at'); (simp; done)) | (with_reducible apply alloc_at_lt) | (with_reducible apply heap_drew_at) | (with_reducible apply heap_drewN_at) | (with_reducible apply heap_setCell_same) | ((with_reducible apply heap_set_ne); (first | omega | (dsimp only; omega) | (simp; done) | (simp; omega))) | (with_reducible apply setRow_at) | ((with_reducible apply setRow_ne); (first | omega | (dsimp only; omega) | (simp; done) | (simp; omega))))))); simp)), (at_of (by apply Exists.intro; refine ⟨?_, ?_⟩; (focus ((repeat (first | (with_reducible assumption) | (with_reducible exact alloc_at _ _) | ((with_reducible apply alloc_at'); (simp; done)) | (with_reducible apply alloc_at_lt) | (with_reducible apply heap_drew_at) | (with_reducible apply heap_drewN_at) | (with_reducible apply heap_setCell_same) | ((with_reducible apply heap_set_ne); (first | omega | (dsimp only; omega) | (simp; done) | (simp; omega))) | (with_reducible apply setRow_at) | ((with_reducible apply setRow_ne); (first | omega | (dsimp only; omega) | (simp; done) | (simp; omega))))))); simp)), (at_of (by apply Exists.intro; refine ⟨?_, ?_⟩; (focus ((repeat (first | (with_reducible assumption) | (with_reducible exact alloc_at _ _) | ((with_reducible apply alloc_at'); (simp; done)) | (with_reducible apply alloc_at_lt) | (with_reducible apply heap_drew_at) | (with_reducible apply heap_drewN_at) | (with_reducible apply heap_setCell_same) | ((with_reducible apply heap_set_ne); (first | omega | (dsimp only; omega) | (simp; done) | (simp; omega))) | (with_reducible apply setRow_at) | ((with_reducible apply setRow_ne); (first | omega | (dsimp only; omega) | (simp; done) | (simp; omega))))))); simp)), (at_of (by apply Exists.intro; refine ⟨?_, ?_⟩; (focus ((repeat (first | (with_reducible assumption) | (with_reducible exact alloc_at _ _) | ((with_reducible apply alloc_at'); (simp; done)) | (with_reducible apply alloc_at_lt) | (with_reducible apply heap_drew_at) | (with_reducible apply heap_drewN_at) | (with_reducible apply heap_setCell_same) | ((with_reducible apply heap_set_ne); (first | omega | (dsimp only; omega) | (simp; done) | (simp; omega))) | (with_reducible apply setRow_at) | ((with_reducible apply setRow_ne); (first | omega | (dsimp only; omega) | (simp; done) | (simp; omega))))))); simp))⟩
  case rest =>
    obtain ⟨rfl, B1, N_1, P_1, Q_1, R_1, S_1⟩ := hcut
    obtain ⟨w1, rfl⟩ : ∃ x : World, x = wc := ⟨_, rfl⟩
    have Nc0 : w1.cell? ⟨w.heap.size, 0, none⟩ = some (.int .u64 a) := (blk_cell N_1 0).trans rfl
    have Nc1 : w1.cell? ⟨w.heap.size, 1, none⟩ = some (.int .u64 b) := (blk_cell N_1 1).trans rfl
    have Nc2 : w1.cell? ⟨w.heap.size, 2, none⟩ = some (.int .u64 c) := (blk_cell N_1 2).trans rfl
    have Ncf := blk_free N_1
    have Pc0 : w1.cell? ⟨w.heap.size + 1, 0, none⟩ = some (.int .u64 p) := (blk_cell P_1 0).trans rfl
    have Pcf := blk_free P_1
    have Qc0 : w1.cell? ⟨w.heap.size + 1 + 1, 0, none⟩ = some (.int .u64 q) := (blk_cell Q_1 0).trans rfl
    have Qcf := blk_free Q_1
    have Rc0 : w1.cell? ⟨w.heap.size + 1 + 1 + 1, 0, none⟩ = some (.int .u64 0) := (blk_cell R_1 0).trans rfl
    have Rc1 : w1.cell? ⟨w.heap.size + 1 + 1 + 1, 1, none⟩ = some (.int .u64 0) := (blk_cell R_1 1).trans rfl
    have Rcf := blk_free R_1
    have Sc0 : w1.cell? ⟨w.heap.size + 1 + 1 + 1 + 1, 0, none⟩ = some (.pointer (some ⟨w.heap.size + 1, 0, none⟩)) := (blk_cell S_1 0).trans rfl
    have Sc1 : w1.cell? ⟨w.heap.size + 1 + 1 + 1 + 1, 1, none⟩ = some (.pointer (some ⟨w.heap.size + 1 + 1, 0, none⟩)) := (blk_cell S_1 1).trans rfl
    have Scf := blk_free S_1
    have Nl1 : w.heap.size < w1.heap.size := lt_of_at N_1
    have Pl1 : w.heap.size + 1 < w1.heap.size := lt_of_at P_1
    have Ql1 : w.heap.size + 1 + 1 < w1.heap.size := lt_of_at Q_1
    have Rl1 : w.heap.size + 1 + 1 + 1 < w1.heap.size := lt_of_at R_1
    have Sl1 : w.heap.size + 1 + 1 + 1 + 1 < w1.heap.size := lt_of_at S_1
    go_upto_region 4 with fail
    go_cut [11] (fun s0_ wx => s0_ = .int .u64 r1 ∧ Below w1.heap.size w1 wx)
    case first =>
      go_region_held3 (fun w' => Below w1.heap.size w1 w' ∧ (∀ b o, b < w1.heap.size → w'.cell? ⟨b, o, none⟩ = w1.cell? ⟨b, o, none⟩) ∧ ∀ b o, b < w1.heap.size → w'.frozen? ⟨b, o, none⟩ = w1.frozen? ⟨b, o, none⟩) (first | ((try go_split_ands); (try dsimp only); refine same_of ?_; (repeat (first | with_reducible assumption | with_reducible exact Below.refl _ _ | with_reducible refine Below.drew ?_ | with_reducible refine below_drewN ?_ _ | with_reducible refine below_alloc ?_ _ | with_reducible refine Below.alloc ?_ (by first | omega | (simp; done) | (simp; omega)) _ | with_reducible refine Below.setCell ?_ (by first | omega | (simp; done) | (simp; omega)) _ | with_reducible refine below_setRow ?_ (by first | omega | (simp; done) | (simp; omega)) _)); done) | ((try go_split_ands); (try dsimp only); refine same_of ?_; (repeat (first | with_reducible refine below_call ?_ hb99 | with_reducible assumption | with_reducible exact Below.refl _ _ | with_reducible refine Below.drew ?_ | with_reducible refine below_alloc ?_ _)); done)) (first | (go_at_call 44; refine (D1.out _).mono ?_; rintro e w99 ⟨rfl, hb99⟩; obtain ⟨hc99, hf99⟩ := bcell hb99))
      all_goals
        obtain ⟨hb98, -, -⟩ : Below w1.heap.size w1 _ ∧ _ ∧ _ := by assumption
        go_wp2_with fail
        go_meet
        exact ⟨by first | rfl | (simp; done) | (simp; omega), hb98⟩
    case rest =>
      obtain ⟨rfl, hb2⟩ := hcut
      obtain ⟨w2, rfl⟩ : ∃ x : World, x = wc := ⟨_, rfl⟩
      have hs2 := hb2.size
      try simp only [World.size_alloc, World.size_setCell] at hs2
      have N_2 : w2.heap[w.heap.size]? = some (.cells #[.int .u64 a, .int .u64 b, .int .u64 c] 63 (0, 0)) := below_at hb2 (by first | omega | (simp; done) | (simp; omega)) (by (repeat (first | (with_reducible assumption) | (with_reducible exact alloc_at _ _) | ((with_reducible apply alloc_at'); (simp; done)) | (with_reducible apply alloc_at_lt) | (with_reducible apply heap_drew_at) | (with_reducible apply heap_drewN_at) | (with_reducible apply heap_setCell_same) | ((with_reducible apply heap_set_ne); (first | omega | (dsimp only; omega) | (simp; done) | (simp; omega))) | (with_reducible apply setRow_at) | ((with_reducible apply setRow_ne); (first | omega | (dsimp only; omega) | (simp; done) | (simp; omega))))))
      have P_2 : w2.heap[w.heap.size + 1]? = some (.cells #[.int .u64 p] 22 (0, 0)) := below_at hb2 (by first | omega | (simp; done) | (simp; omega)) (by (repeat (first | (with_reducible assumption) | (with_reducible exact alloc_at _ _) | ((with_reducible apply alloc_at'); (simp; done)) | (with_reducible apply alloc_at_lt) | (with_reducible apply heap_drew_at) | (with_reducible apply heap_drewN_at) | (with_reducible apply heap_setCell_same) | ((with_reducible apply heap_set_ne); (first | omega | (dsimp only; omega) | (simp; done) | (simp; omega))) | (with_reducible apply setRow_at) | ((with_reducible apply setRow_ne); (first | omega | (dsimp only; omega) | (simp; done) | (simp; omega))))))
      have Q_2 : w2.heap[w.heap.size + 1 + 1]? = some (.cells #[.int .u64 q] 22 (0, 0)) := below_at hb2 (by first | omega | (simp; done) | (simp; omega)) (by (repeat (first | (with_reducible assumption) | (with_reducible exact alloc_at _ _) | ((with_reducible apply alloc_at'); (simp; done)) | (with_reducible apply alloc_at_lt) | (with_reducible apply heap_drew_at) | (with_reducible apply heap_drewN_at) | (with_reducible apply heap_setCell_same) | ((with_reducible apply heap_set_ne); (first | omega | (dsimp only; omega) | (simp; done) | (simp; omega))) | (with_reducible apply setRow_at) | ((with_reducible apply setRow_ne); (first | omega | (dsimp only; omega) | (simp; done) | (simp; omega))))))
      have R_2 : w2.heap[w.heap.size + 1 + 1 + 1]? = some (.cells #[.int .u64 0, .int .u64 0] 24 (0, 0)) := below_at hb2 (by first | omega | (simp; done) | (simp; omega)) (by (repeat (first | (with_reducible assumption) | (with_reducible exact alloc_at _ _) | ((with_reducible apply alloc_at'); (simp; done)) | (with_reducible apply alloc_at_lt) | (with_reducible apply heap_drew_at) | (with_reducible apply heap_drewN_at) | (with_reducible apply heap_setCell_same) | ((with_reducible apply heap_set_ne); (first | omega | (dsimp only; omega) | (simp; done) | (simp; omega))) | (with_reducible apply setRow_at) | ((with_reducible apply setRow_ne); (first | omega | (dsimp only; omega) | (simp; done) | (simp; omega))))))
      have S_2 : w2.heap[w.heap.size + 1 + 1 + 1 + 1]? = some (.cells #[.pointer (some ⟨w.heap.size + 1, 0, none⟩), .pointer (some ⟨w.heap.size + 1 + 1, 0, none⟩)] 72 (0, 0)) := below_at hb2 (by first | omega | (simp; done) | (simp; omega)) (by (repeat (first | (with_reducible assumption) | (with_reducible exact alloc_at _ _) | ((with_reducible apply alloc_at'); (simp; done)) | (with_reducible apply alloc_at_lt) | (with_reducible apply heap_drew_at) | (with_reducible apply heap_drewN_at) | (with_reducible apply heap_setCell_same) | ((with_reducible apply heap_set_ne); (first | omega | (dsimp only; omega) | (simp; done) | (simp; omega))) | (with_reducible apply setRow_at) | ((with_reducible apply setRow_ne); (first | omega | (dsimp only; omega) | (simp; done) | (simp; omega))))))
      have B2 : Below w.heap.size w w2 := Below.trans (by repeat (first | with_reducible assumption | with_reducible exact Below.refl _ _ | with_reducible refine Below.drew ?_ | with_reducible refine below_drewN ?_ _ | with_reducible refine below_alloc ?_ _ | with_reducible refine Below.alloc ?_ (by first | omega | (simp; done) | (simp; omega)) _ | with_reducible refine Below.setCell ?_ (by first | omega | (simp; done) | (simp; omega)) _ | with_reducible refine below_setRow ?_ (by first | omega | (simp; done) | (simp; omega)) _)) (hb2.mono (by first | omega | (simp; done) | (simp; omega)))
      clear hb2 N_1 P_1 Q_1 R_1 S_1
      clear Nc0 Nc1 Nc2 Ncf
      clear Pc0 Pcf
      clear Qc0 Qcf
      clear Rc0 Rc1 Rcf
      clear Sc0 Sc1 Scf
      have Nc0 : w2.cell? ⟨w.heap.size, 0, none⟩ = some (.int .u64 a) := (blk_cell N_2 0).trans rfl
      have Nc1 : w2.cell? ⟨w.heap.size, 1, none⟩ = some (.int .u64 b) := (blk_cell N_2 1).trans rfl
      have Nc2 : w2.cell? ⟨w.heap.size, 2, none⟩ = some (.int .u64 c) := (blk_cell N_2 2).trans rfl
      have Ncf := blk_free N_2
      have Pc0 : w2.cell? ⟨w.heap.size + 1, 0, none⟩ = some (.int .u64 p) := (blk_cell P_2 0).trans rfl
      have Pcf := blk_free P_2
      have Qc0 : w2.cell? ⟨w.heap.size + 1 + 1, 0, none⟩ = some (.int .u64 q) := (blk_cell Q_2 0).trans rfl
      have Qcf := blk_free Q_2
      have Rc0 : w2.cell? ⟨w.heap.size + 1 + 1 + 1, 0, none⟩ = some (.int .u64 0) := (blk_cell R_2 0).trans rfl
      have Rc1 : w2.cell? ⟨w.heap.size + 1 + 1 + 1, 1, none⟩ = some (.int .u64 0) := (blk_cell R_2 1).trans rfl
      have Rcf := blk_free R_2
      have Sc0 : w2.cell? ⟨w.heap.size + 1 + 1 + 1 + 1, 0, none⟩ = some (.pointer (some ⟨w.heap.size + 1, 0, none⟩)) := (blk_cell S_2 0).trans rfl
      have Sc1 : w2.cell? ⟨w.heap.size + 1 + 1 + 1 + 1, 1, none⟩ = some (.pointer (some ⟨w.heap.size + 1 + 1, 0, none⟩)) := (blk_cell S_2 1).trans rfl
      have Scf := blk_free S_2
      have Nl2 : w.heap.size < w2.heap.size := by omega
      have Pl2 : w.heap.size + 1 < w2.heap.size := by omega
      have Ql2 : w.heap.size + 1 + 1 < w2.heap.size := by omega
      have Rl2 : w.heap.size + 1 + 1 + 1 < w2.heap.size := by omega
      have Sl2 : w.heap.size + 1 + 1 + 1 + 1 < w2.heap.size := by omega
      go_wp2_with fail
      refine (G1.out _).mono ?_
      rintro e w3 ⟨rfl, hb3⟩
      have hs3 := hb3.size
      try simp only [World.size_alloc, World.size_setCell] at hs3
      have N_3 : w3.heap[w.heap.size]? = some (.cells #[.int .u64 a, .int .u64 b, .int .u64 c] 63 (0, 0)) := below_at hb3 (by first | omega | (simp; done) | (simp; omega)) (by (repeat (first | (with_reducible assumption) | (with_reducible exact alloc_at _ _) | ((with_reducible apply alloc_at'); (simp; done)) | (with_reducible apply alloc_at_lt) | (with_reducible apply heap_drew_at) | (with_reducible apply heap_drewN_at) | (with_reducible apply heap_setCell_same) | ((with_reducible apply heap_set_ne); (first | omega | (dsimp only; omega) | (simp; done) | (simp; omega))) | (with_reducible apply setRow_at) | ((with_reducible apply setRow_ne); (first | omega | (dsimp only; omega) | (simp; done) | (simp; omega))))))
      have P_3 : w3.heap[w.heap.size + 1]? = some (.cells #[.int .u64 p] 22 (0, 0)) := below_at hb3 (by first | omega | (simp; done) | (simp; omega)) (by (repeat (first | (with_reducible assumption) | (with_reducible exact alloc_at _ _) | ((with_reducible apply alloc_at'); (simp; done)) | (with_reducible apply alloc_at_lt) | (with_reducible apply heap_drew_at) | (with_reducible apply heap_drewN_at) | (with_reducible apply heap_setCell_same) | ((with_reducible apply heap_set_ne); (first | omega | (dsimp only; omega) | (simp; done) | (simp; omega))) | (with_reducible apply setRow_at) | ((with_reducible apply setRow_ne); (first | omega | (dsimp only; omega) | (simp; done) | (simp; omega))))))
      have Q_3 : w3.heap[w.heap.size + 1 + 1]? = some (.cells #[.int .u64 q] 22 (0, 0)) := below_at hb3 (by first | omega | (simp; done) | (simp; omega)) (by (repeat (first | (with_reducible assumption) | (with_reducible exact alloc_at _ _) | ((with_reducible apply alloc_at'); (simp; done)) | (with_reducible apply alloc_at_lt) | (with_reducible apply heap_drew_at) | (with_reducible apply heap_drewN_at) | (with_reducible apply heap_setCell_same) | ((with_reducible apply heap_set_ne); (first | omega | (dsimp only; omega) | (simp; done) | (simp; omega))) | (with_reducible apply setRow_at) | ((with_reducible apply setRow_ne); (first | omega | (dsimp only; omega) | (simp; done) | (simp; omega))))))
      have R_3 : w3.heap[w.heap.size + 1 + 1 + 1]? = some (.cells #[.int .u64 0, .int .u64 0] 24 (0, 0)) := below_at hb3 (by first | omega | (simp; done) | (simp; omega)) (by (repeat (first | (with_reducible assumption) | (with_reducible exact alloc_at _ _) | ((with_reducible apply alloc_at'); (simp; done)) | (with_reducible apply alloc_at_lt) | (with_reducible apply heap_drew_at) | (with_reducible apply heap_drewN_at) | (with_reducible apply heap_setCell_same) | ((with_reducible apply heap_set_ne); (first | omega | (dsimp only; omega) | (simp; done) | (simp; omega))) | (with_reducible apply setRow_at) | ((with_reducible apply setRow_ne); (first | omega | (dsimp only; omega) | (simp; done) | (simp; omega))))))
      have S_3 : w3.heap[w.heap.size + 1 + 1 + 1 + 1]? = some (.cells #[.pointer (some ⟨w.heap.size + 1, 0, none⟩), .pointer (some ⟨w.heap.size + 1 + 1, 0, none⟩)] 72 (0, 0)) := below_at hb3 (by first | omega | (simp; done) | (simp; omega)) (by (repeat (first | (with_reducible assumption) | (with_reducible exact alloc_at _ _) | ((with_reducible apply alloc_at'); (simp; done)) | (with_reducible apply alloc_at_lt) | (with_reducible apply heap_drew_at) | (with_reducible apply heap_drewN_at) | (with_reducible apply heap_setCell_same) | ((with_reducible apply heap_set_ne); (first | omega | (dsimp only; omega) | (simp; done) | (simp; omega))) | (with_reducible apply setRow_at) | ((with_reducible apply setRow_ne); (first | omega | (dsimp only; omega) | (simp; done) | (simp; omega))))))
      have B3 : Below w.heap.size w w3 := Below.trans (by repeat (first | with_reducible assumption | with_reducible exact Below.refl _ _ | with_reducible refine Below.drew ?_ | with_reducible refine below_drewN ?_ _ | with_reducible refine below_alloc ?_ _ | with_reducible refine Below.alloc ?_ (by first | omega | (simp; done) | (simp; omega)) _ | with_reducible refine Below.setCell ?_ (by first | omega | (simp; done) | (simp; omega)) _ | with_reducible refine below_setRow ?_ (by first | omega | (simp; done) | (simp; omega)) _)) (hb3.mono (by first | omega | (simp; done) | (simp; omega)))
      clear hb3 N_2 P_2 Q_2 R_2 S_2
      clear Nc0 Nc1 Nc2 Ncf
      clear Pc0 Pcf
      clear Qc0 Qcf
      clear Rc0 Rc1 Rcf
      clear Sc0 Sc1 Scf
      have Nc0 : w3.cell? ⟨w.heap.size, 0, none⟩ = some (.int .u64 a) := (blk_cell N_3 0).trans rfl
      have Nc1 : w3.cell? ⟨w.heap.size, 1, none⟩ = some (.int .u64 b) := (blk_cell N_3 1).trans rfl
      have Nc2 : w3.cell? ⟨w.heap.size, 2, none⟩ = some (.int .u64 c) := (blk_cell N_3 2).trans rfl
      have Ncf := blk_free N_3
      have Pc0 : w3.cell? ⟨w.heap.size + 1, 0, none⟩ = some (.int .u64 p) := (blk_cell P_3 0).trans rfl
      have Pcf := blk_free P_3
      have Qc0 : w3.cell? ⟨w.heap.size + 1 + 1, 0, none⟩ = some (.int .u64 q) := (blk_cell Q_3 0).trans rfl
      have Qcf := blk_free Q_3
      have Rc0 : w3.cell? ⟨w.heap.size + 1 + 1 + 1, 0, none⟩ = some (.int .u64 0) := (blk_cell R_3 0).trans rfl
      have Rc1 : w3.cell? ⟨w.heap.size + 1 + 1 + 1, 1, none⟩ = some (.int .u64 0) := (blk_cell R_3 1).trans rfl
      have Rcf := blk_free R_3
      have Sc0 : w3.cell? ⟨w.heap.size + 1 + 1 + 1 + 1, 0, none⟩ = some (.pointer (some ⟨w.heap.size + 1, 0, none⟩)) := (blk_cell S_3 0).trans rfl
      have Sc1 : w3.cell? ⟨w.heap.size + 1 + 1 + 1 + 1, 1, none⟩ = some (.pointer (some ⟨w.heap.size + 1 + 1, 0, none⟩)) := (blk_cell S_3 1).trans rfl
      have Scf := blk_free S_3
      have Nl3 : w.heap.size < w3.heap.size := by omega
      have Pl3 : w.heap.size + 1 < w3.heap.size := by omega
      have Ql3 : w.heap.size + 1 + 1 < w3.heap.size := by omega
      have Rl3 : w.heap.size + 1 + 1 + 1 < w3.heap.size := by omega
      have Sl3 : w.heap.size + 1 + 1 + 1 + 1 < w3.heap.size := by omega
      go_wp2_with fail
      refine (D2.out _).mono ?_
      rintro e w4 ⟨rfl, hb4⟩
      have hs4 := hb4.size
      try simp only [World.size_alloc, World.size_setCell] at hs4
      have N_4 : w4.heap[w.heap.size]? = some (.cells #[.int .u64 a, .int .u64 b, .int .u64 c] 63 (0, 0)) := below_at hb4 (by first | omega | (simp; done) | (simp; omega)) (by (repeat (first | (with_reducible assumption) | (with_reducible exact alloc_at _ _) | ((with_reducible apply alloc_at'); (simp; done)) | (with_reducible apply alloc_at_lt) | (with_reducible apply heap_drew_at) | (with_reducible apply heap_drewN_at) | (with_reducible apply heap_setCell_same) | ((with_reducible apply heap_set_ne); (first | omega | (dsimp only; omega) | (simp; done) | (simp; omega))) | (with_reducible apply setRow_at) | ((with_reducible apply setRow_ne); (first | omega | (dsimp only; omega) | (simp; done) | (simp; omega))))))
      have P_4 : w4.heap[w.heap.size + 1]? = some (.cells #[.int .u64 p] 22 (0, 0)) := below_at hb4 (by first | omega | (simp; done) | (simp; omega)) (by (repeat (first | (with_reducible assumption) | (with_reducible exact alloc_at _ _) | ((with_reducible apply alloc_at'); (simp; done)) | (with_reducible apply alloc_at_lt) | (with_reducible apply heap_drew_at) | (with_reducible apply heap_drewN_at) | (with_reducible apply heap_setCell_same) | ((with_reducible apply heap_set_ne); (first | omega | (dsimp only; omega) | (simp; done) | (simp; omega))) | (with_reducible apply setRow_at) | ((with_reducible apply setRow_ne); (first | omega | (dsimp only; omega) | (simp; done) | (simp; omega))))))
      have Q_4 : w4.heap[w.heap.size + 1 + 1]? = some (.cells #[.int .u64 q] 22 (0, 0)) := below_at hb4 (by first | omega | (simp; done) | (simp; omega)) (by (repeat (first | (with_reducible assumption) | (with_reducible exact alloc_at _ _) | ((with_reducible apply alloc_at'); (simp; done)) | (with_reducible apply alloc_at_lt) | (with_reducible apply heap_drew_at) | (with_reducible apply heap_drewN_at) | (with_reducible apply heap_setCell_same) | ((with_reducible apply heap_set_ne); (first | omega | (dsimp only; omega) | (simp; done) | (simp; omega))) | (with_reducible apply setRow_at) | ((with_reducible apply setRow_ne); (first | omega | (dsimp only; omega) | (simp; done) | (simp; omega))))))
      have R_4 : w4.heap[w.heap.size + 1 + 1 + 1]? = some (.cells #[.int .u64 0, .int .u64 0] 24 (0, 0)) := below_at hb4 (by first | omega | (simp; done) | (simp; omega)) (by (repeat (first | (with_reducible assumption) | (with_reducible exact alloc_at _ _) | ((with_reducible apply alloc_at'); (simp; done)) | (with_reducible apply alloc_at_lt) | (with_reducible apply heap_drew_at) | (with_reducible apply heap_drewN_at) | (with_reducible apply heap_setCell_same) | ((with_reducible apply heap_set_ne); (first | omega | (dsimp only; omega) | (simp; done) | (simp; omega))) | (with_reducible apply setRow_at) | ((with_reducible apply setRow_ne); (first | omega | (dsimp only; omega) | (simp; done) | (simp; omega))))))
      have S_4 : w4.heap[w.heap.size + 1 + 1 + 1 + 1]? = some (.cells #[.pointer (some ⟨w.heap.size + 1, 0, none⟩), .pointer (some ⟨w.heap.size + 1 + 1, 0, none⟩)] 72 (0, 0)) := below_at hb4 (by first | omega | (simp; done) | (simp; omega)) (by (repeat (first | (with_reducible assumption) | (with_reducible exact alloc_at _ _) | ((with_reducible apply alloc_at'); (simp; done)) | (with_reducible apply alloc_at_lt) | (with_reducible apply heap_drew_at) | (with_reducible apply heap_drewN_at) | (with_reducible apply heap_setCell_same) | ((with_reducible apply heap_set_ne); (first | omega | (dsimp only; omega) | (simp; done) | (simp; omega))) | (with_reducible apply setRow_at) | ((with_reducible apply setRow_ne); (first | omega | (dsimp only; omega) | (simp; done) | (simp; omega))))))
      have B4 : Below w.heap.size w w4 := Below.trans (by repeat (first | with_reducible assumption | with_reducible exact Below.refl _ _ | with_reducible refine Below.drew ?_ | with_reducible refine below_drewN ?_ _ | with_reducible refine below_alloc ?_ _ | with_reducible refine Below.alloc ?_ (by first | omega | (simp; done) | (simp; omega)) _ | with_reducible refine Below.setCell ?_ (by first | omega | (simp; done) | (simp; omega)) _ | with_reducible refine below_setRow ?_ (by first | omega | (simp; done) | (simp; omega)) _)) (hb4.mono (by first | omega | (simp; done) | (simp; omega)))
      clear hb4 N_3 P_3 Q_3 R_3 S_3
      clear Nc0 Nc1 Nc2 Ncf
      clear Pc0 Pcf
      clear Qc0 Qcf
      clear Rc0 Rc1 Rcf
      clear Sc0 Sc1 Scf
      have Nc0 : w4.cell? ⟨w.heap.size, 0, none⟩ = some (.int .u64 a) := (blk_cell N_4 0).trans rfl
      have Nc1 : w4.cell? ⟨w.heap.size, 1, none⟩ = some (.int .u64 b) := (blk_cell N_4 1).trans rfl
      have Nc2 : w4.cell? ⟨w.heap.size, 2, none⟩ = some (.int .u64 c) := (blk_cell N_4 2).trans rfl
      have Ncf := blk_free N_4
      have Pc0 : w4.cell? ⟨w.heap.size + 1, 0, none⟩ = some (.int .u64 p) := (blk_cell P_4 0).trans rfl
      have Pcf := blk_free P_4
      have Qc0 : w4.cell? ⟨w.heap.size + 1 + 1, 0, none⟩ = some (.int .u64 q) := (blk_cell Q_4 0).trans rfl
      have Qcf := blk_free Q_4
      have Rc0 : w4.cell? ⟨w.heap.size + 1 + 1 + 1, 0, none⟩ = some (.int .u64 0) := (blk_cell R_4 0).trans rfl
      have Rc1 : w4.cell? ⟨w.heap.size + 1 + 1 + 1, 1, none⟩ = some (.int .u64 0) := (blk_cell R_4 1).trans rfl
      have Rcf := blk_free R_4
      have Sc0 : w4.cell? ⟨w.heap.size + 1 + 1 + 1 + 1, 0, none⟩ = some (.pointer (some ⟨w.heap.size + 1, 0, none⟩)) := (blk_cell S_4 0).trans rfl
      have Sc1 : w4.cell? ⟨w.heap.size + 1 + 1 + 1 + 1, 1, none⟩ = some (.pointer (some ⟨w.heap.size + 1 + 1, 0, none⟩)) := (blk_cell S_4 1).trans rfl
      have Scf := blk_free S_4
      have Nl4 : w.heap.size < w4.heap.size := by omega
      have Pl4 : w.heap.size + 1 < w4.heap.size := by omega
      have Ql4 : w.heap.size + 1 + 1 < w4.heap.size := by omega
      have Rl4 : w.heap.size + 1 + 1 + 1 < w4.heap.size := by omega
      have Sl4 : w.heap.size + 1 + 1 + 1 + 1 < w4.heap.size := by omega
      have hq_p1 := E1.out
      go_wp2_with fail
      clear hq_p1
      rw [rounds_succ]
      go_upto_region 3 with fail
      go_cut [9] (fun s wx => s = .pointer (some ⟨w.heap.size + 1 + 1, 0, none⟩) ∧ Below w.heap.size w wx ∧ wx.heap[w.heap.size]? = some (.cells #[.int .u64 a1, .int .u64 b1, .int .u64 c1] 63 (0, 0)) ∧ wx.heap[w.heap.size + 1]? = some (.cells #[.int .u64 p1] 22 (0, 0)) ∧ wx.heap[w.heap.size + 1 + 1]? = some (.cells #[.int .u64 q] 22 (0, 0)) ∧ wx.heap[w.heap.size + 1 + 1 + 1]? = some (.cells #[.int .u64 0, .int .u64 0] 24 (0, 0)) ∧ wx.heap[w.heap.size + 1 + 1 + 1 + 1]? = some (.cells #[.pointer (some ⟨w.heap.size + 1, 0, none⟩), .pointer (some ⟨w.heap.size + 1 + 1, 0, none⟩)] 72 (0, 0)))
      case first =>
        go_wp2
        go_meet
        exact ⟨rfl, (by repeat (first | with_reducible assumption | with_reducible exact Below.refl _ _ | with_reducible refine Below.drew ?_ | with_reducible refine below_drewN ?_ _ | with_reducible refine below_alloc ?_ _ | with_reducible refine Below.alloc ?_ (by first | omega | (simp; done) | (simp; omega)) _ | with_reducible refine Below.setCell ?_ (by first | omega | (simp; done) | (simp; omega)) _ | with_reducible refine below_setRow ?_ (by first | omega | (simp; done) | (simp; omega)) _)), (at_of (by apply Exists.intro; refine ⟨?_, ?_⟩; (focus ((repeat (first | (with_reducible assumption) | (with_reducible exact alloc_at _ _) | ((with_reducible apply alloc_at'); (simp; done)) | (with_reducible apply alloc_at_lt) | (with_reducible apply heap_drew_at) | (with_reducible apply heap_drewN_at) | (with_reducible apply heap_setCell_same) | ((with_reducible apply heap_set_ne); (first | omega | (dsimp only; omega) | (simp; done) | (simp; omega))) | (with_reducible apply setRow_at) | ((with_reducible apply setRow_ne); (first | omega | (dsimp only; omega) | (simp; done) | (simp; omega))))))); simp)), (at_of (by apply Exists.intro; refine ⟨?_, ?_⟩; (focus ((repeat (first | (with_reducible assumption) | (with_reducible exact alloc_at _ _) | ((with_reducible apply alloc_at'); (simp; done)) | (with_reducible apply alloc_at_lt) | (with_reducible apply heap_drew_at) | (with_reducible apply heap_drewN_at) | (with_reducible apply heap_setCell_same) | ((with_reducible apply heap_set_ne); (first | omega | (dsimp only; omega) | (simp; done) | (simp; omega))) | (with_reducible apply setRow_at) | ((with_reducible apply setRow_ne); (first | omega | (dsimp only; omega) | (simp; done) | (simp; omega))))))); simp)), (at_of (by apply Exists.intro; refine ⟨?_, ?_⟩; (focus ((repeat (first | (with_reducible assumption) | (with_reducible exact alloc_at _ _) | ((with_reducible apply alloc_at'); (simp; done)) | (with_reducible apply alloc_at_lt) | (with_reducible apply heap_drew_at) | (with_reducible apply heap_drewN_at) | (with_reducible apply heap_setCell_same) | ((with_reducible apply heap_set_ne); (first | omega | (dsimp only; omega) | (simp; done) | (simp; omega))) | (with_reducible apply setRow_at) | ((with_reducible apply setRow_ne); (first | omega | (dsimp only; omega) | (simp; done) | (simp; omega))))))); simp)), (at_of (by apply Exists.intro; refine ⟨?_, ?_⟩; (focus ((repeat (first | (with_reducible assumption) | (with_reducible exact alloc_at _ _) | ((with_reducible apply alloc_at'); (simp; done)) | (with_reducible apply alloc_at_lt) | (with_reducible apply heap_drew_at) | (with_reducible apply heap_drewN_at) | (with_reducible apply heap_setCell_same) | ((with_reducible apply heap_set_ne); (first | omega | (dsimp only; omega) | (simp; done) | (simp; omega))) | (with_reducible apply setRow_at) | ((with_reducible apply setRow_ne); (first | omega | (dsimp only; omega) | (simp; done) | (simp; omega))))))); simp)), (at_of (by apply Exists.intro; refine ⟨?_, ?_⟩; (focus ((repeat (first | (with_reducible assumption) | (with_reducible exact alloc_at _ _) | ((with_reducible apply alloc_at'); (simp; done)) | (with_reducible apply alloc_at_lt) | (with_reducible apply heap_drew_at) | (with_reducible apply heap_drewN_at) | (with_reducible apply heap_setCell_same) | ((with_reducible apply heap_set_ne); (first | omega | (dsimp only; omega) | (simp; done) | (simp; omega))) | (with_reducible apply setRow_at) | ((with_reducible apply setRow_ne); (first | omega | (dsimp only; omega) | (simp; done) | (simp; omega))))))); simp))⟩
      case rest =>
        obtain ⟨rfl, B5, N_5, P_5, Q_5, R_5, S_5⟩ := hcut
        obtain ⟨w5, rfl⟩ : ∃ x : World, x = wc := ⟨_, rfl⟩
        clear N_4
        clear P_4
        clear Q_4
        clear R_4
        clear S_4
        clear Nc0 Nc1 Nc2 Ncf
        clear Pc0 Pcf
        clear Qc0 Qcf
        clear Rc0 Rc1 Rcf
        clear Sc0 Sc1 Scf
        have Nc0 : w5.cell? ⟨w.heap.size, 0, none⟩ = some (.int .u64 a1) := (blk_cell N_5 0).trans rfl
        have Nc1 : w5.cell? ⟨w.heap.size, 1, none⟩ = some (.int .u64 b1) := (blk_cell N_5 1).trans rfl
        have Nc2 : w5.cell? ⟨w.heap.size, 2, none⟩ = some (.int .u64 c1) := (blk_cell N_5 2).trans rfl
        have Ncf := blk_free N_5
        have Pc0 : w5.cell? ⟨w.heap.size + 1, 0, none⟩ = some (.int .u64 p1) := (blk_cell P_5 0).trans rfl
        have Pcf := blk_free P_5
        have Qc0 : w5.cell? ⟨w.heap.size + 1 + 1, 0, none⟩ = some (.int .u64 q) := (blk_cell Q_5 0).trans rfl
        have Qcf := blk_free Q_5
        have Rc0 : w5.cell? ⟨w.heap.size + 1 + 1 + 1, 0, none⟩ = some (.int .u64 0) := (blk_cell R_5 0).trans rfl
        have Rc1 : w5.cell? ⟨w.heap.size + 1 + 1 + 1, 1, none⟩ = some (.int .u64 0) := (blk_cell R_5 1).trans rfl
        have Rcf := blk_free R_5
        have Sc0 : w5.cell? ⟨w.heap.size + 1 + 1 + 1 + 1, 0, none⟩ = some (.pointer (some ⟨w.heap.size + 1, 0, none⟩)) := (blk_cell S_5 0).trans rfl
        have Sc1 : w5.cell? ⟨w.heap.size + 1 + 1 + 1 + 1, 1, none⟩ = some (.pointer (some ⟨w.heap.size + 1 + 1, 0, none⟩)) := (blk_cell S_5 1).trans rfl
        have Scf := blk_free S_5
        have Nl5 : w.heap.size < w5.heap.size := lt_of_at N_5
        have Pl5 : w.heap.size + 1 < w5.heap.size := lt_of_at P_5
        have Ql5 : w.heap.size + 1 + 1 < w5.heap.size := lt_of_at Q_5
        have Rl5 : w.heap.size + 1 + 1 + 1 < w5.heap.size := lt_of_at R_5
        have Sl5 : w.heap.size + 1 + 1 + 1 + 1 < w5.heap.size := lt_of_at S_5
        go_upto_region 4 with fail
        go_cut [11] (fun s0_ wx => s0_ = .int .u64 r2 ∧ Below w5.heap.size w5 wx)
        case first =>
          go_region_held3 (fun w' => Below w5.heap.size w5 w' ∧ (∀ b o, b < w5.heap.size → w'.cell? ⟨b, o, none⟩ = w5.cell? ⟨b, o, none⟩) ∧ ∀ b o, b < w5.heap.size → w'.frozen? ⟨b, o, none⟩ = w5.frozen? ⟨b, o, none⟩) (first | ((try go_split_ands); (try dsimp only); refine same_of ?_; (repeat (first | with_reducible assumption | with_reducible exact Below.refl _ _ | with_reducible refine Below.drew ?_ | with_reducible refine below_drewN ?_ _ | with_reducible refine below_alloc ?_ _ | with_reducible refine Below.alloc ?_ (by first | omega | (simp; done) | (simp; omega)) _ | with_reducible refine Below.setCell ?_ (by first | omega | (simp; done) | (simp; omega)) _ | with_reducible refine below_setRow ?_ (by first | omega | (simp; done) | (simp; omega)) _)); done) | ((try go_split_ands); (try dsimp only); refine same_of ?_; (repeat (first | with_reducible refine below_call ?_ hb99 | with_reducible assumption | with_reducible exact Below.refl _ _ | with_reducible refine Below.drew ?_ | with_reducible refine below_alloc ?_ _)); done)) (first | (go_at_call 44; refine (D3.out _).mono ?_; rintro e w99 ⟨rfl, hb99⟩; obtain ⟨hc99, hf99⟩ := bcell hb99))
          all_goals
            obtain ⟨hb98, -, -⟩ : Below w5.heap.size w5 _ ∧ _ ∧ _ := by assumption
            go_wp2_with fail
            go_meet
            exact ⟨by first | rfl | (simp; done) | (simp; omega), hb98⟩
        case rest =>
          obtain ⟨rfl, hb6⟩ := hcut
          obtain ⟨w6, rfl⟩ : ∃ x : World, x = wc := ⟨_, rfl⟩
          have hs6 := hb6.size
          try simp only [World.size_alloc, World.size_setCell] at hs6
          have N_6 : w6.heap[w.heap.size]? = some (.cells #[.int .u64 a1, .int .u64 b1, .int .u64 c1] 63 (0, 0)) := below_at hb6 (by first | omega | (simp; done) | (simp; omega)) (by (repeat (first | (with_reducible assumption) | (with_reducible exact alloc_at _ _) | ((with_reducible apply alloc_at'); (simp; done)) | (with_reducible apply alloc_at_lt) | (with_reducible apply heap_drew_at) | (with_reducible apply heap_drewN_at) | (with_reducible apply heap_setCell_same) | ((with_reducible apply heap_set_ne); (first | omega | (dsimp only; omega) | (simp; done) | (simp; omega))) | (with_reducible apply setRow_at) | ((with_reducible apply setRow_ne); (first | omega | (dsimp only; omega) | (simp; done) | (simp; omega))))))
          have P_6 : w6.heap[w.heap.size + 1]? = some (.cells #[.int .u64 p1] 22 (0, 0)) := below_at hb6 (by first | omega | (simp; done) | (simp; omega)) (by (repeat (first | (with_reducible assumption) | (with_reducible exact alloc_at _ _) | ((with_reducible apply alloc_at'); (simp; done)) | (with_reducible apply alloc_at_lt) | (with_reducible apply heap_drew_at) | (with_reducible apply heap_drewN_at) | (with_reducible apply heap_setCell_same) | ((with_reducible apply heap_set_ne); (first | omega | (dsimp only; omega) | (simp; done) | (simp; omega))) | (with_reducible apply setRow_at) | ((with_reducible apply setRow_ne); (first | omega | (dsimp only; omega) | (simp; done) | (simp; omega))))))
          have Q_6 : w6.heap[w.heap.size + 1 + 1]? = some (.cells #[.int .u64 q] 22 (0, 0)) := below_at hb6 (by first | omega | (simp; done) | (simp; omega)) (by (repeat (first | (with_reducible assumption) | (with_reducible exact alloc_at _ _) | ((with_reducible apply alloc_at'); (simp; done)) | (with_reducible apply alloc_at_lt) | (with_reducible apply heap_drew_at) | (with_reducible apply heap_drewN_at) | (with_reducible apply heap_setCell_same) | ((with_reducible apply heap_set_ne); (first | omega | (dsimp only; omega) | (simp; done) | (simp; omega))) | (with_reducible apply setRow_at) | ((with_reducible apply setRow_ne); (first | omega | (dsimp only; omega) | (simp; done) | (simp; omega))))))
          have R_6 : w6.heap[w.heap.size + 1 + 1 + 1]? = some (.cells #[.int .u64 0, .int .u64 0] 24 (0, 0)) := below_at hb6 (by first | omega | (simp; done) | (simp; omega)) (by (repeat (first | (with_reducible assumption) | (with_reducible exact alloc_at _ _) | ((with_reducible apply alloc_at'); (simp; done)) | (with_reducible apply alloc_at_lt) | (with_reducible apply heap_drew_at) | (with_reducible apply heap_drewN_at) | (with_reducible apply heap_setCell_same) | ((with_reducible apply heap_set_ne); (first | omega | (dsimp only; omega) | (simp; done) | (simp; omega))) | (with_reducible apply setRow_at) | ((with_reducible apply setRow_ne); (first | omega | (dsimp only; omega) | (simp; done) | (simp; omega))))))
          have S_6 : w6.heap[w.heap.size + 1 + 1 + 1 + 1]? = some (.cells #[.pointer (some ⟨w.heap.size + 1, 0, none⟩), .pointer (some ⟨w.heap.size + 1 + 1, 0, none⟩)] 72 (0, 0)) := below_at hb6 (by first | omega | (simp; done) | (simp; omega)) (by (repeat (first | (with_reducible assumption) | (with_reducible exact alloc_at _ _) | ((with_reducible apply alloc_at'); (simp; done)) | (with_reducible apply alloc_at_lt) | (with_reducible apply heap_drew_at) | (with_reducible apply heap_drewN_at) | (with_reducible apply heap_setCell_same) | ((with_reducible apply heap_set_ne); (first | omega | (dsimp only; omega) | (simp; done) | (simp; omega))) | (with_reducible apply setRow_at) | ((with_reducible apply setRow_ne); (first | omega | (dsimp only; omega) | (simp; done) | (simp; omega))))))
          have B6 : Below w.heap.size w w6 := Below.trans (by repeat (first | with_reducible assumption | with_reducible exact Below.refl _ _ | with_reducible refine Below.drew ?_ | with_reducible refine below_drewN ?_ _ | with_reducible refine below_alloc ?_ _ | with_reducible refine Below.alloc ?_ (by first | omega | (simp; done) | (simp; omega)) _ | with_reducible refine Below.setCell ?_ (by first | omega | (simp; done) | (simp; omega)) _ | with_reducible refine below_setRow ?_ (by first | omega | (simp; done) | (simp; omega)) _)) (hb6.mono (by first | omega | (simp; done) | (simp; omega)))
          clear hb6 N_5 P_5 Q_5 R_5 S_5
          clear Nc0 Nc1 Nc2 Ncf
          clear Pc0 Pcf
          clear Qc0 Qcf
          clear Rc0 Rc1 Rcf
          clear Sc0 Sc1 Scf
          have Nc0 : w6.cell? ⟨w.heap.size, 0, none⟩ = some (.int .u64 a1) := (blk_cell N_6 0).trans rfl
          have Nc1 : w6.cell? ⟨w.heap.size, 1, none⟩ = some (.int .u64 b1) := (blk_cell N_6 1).trans rfl
          have Nc2 : w6.cell? ⟨w.heap.size, 2, none⟩ = some (.int .u64 c1) := (blk_cell N_6 2).trans rfl
          have Ncf := blk_free N_6
          have Pc0 : w6.cell? ⟨w.heap.size + 1, 0, none⟩ = some (.int .u64 p1) := (blk_cell P_6 0).trans rfl
          have Pcf := blk_free P_6
          have Qc0 : w6.cell? ⟨w.heap.size + 1 + 1, 0, none⟩ = some (.int .u64 q) := (blk_cell Q_6 0).trans rfl
          have Qcf := blk_free Q_6
          have Rc0 : w6.cell? ⟨w.heap.size + 1 + 1 + 1, 0, none⟩ = some (.int .u64 0) := (blk_cell R_6 0).trans rfl
          have Rc1 : w6.cell? ⟨w.heap.size + 1 + 1 + 1, 1, none⟩ = some (.int .u64 0) := (blk_cell R_6 1).trans rfl
          have Rcf := blk_free R_6
          have Sc0 : w6.cell? ⟨w.heap.size + 1 + 1 + 1 + 1, 0, none⟩ = some (.pointer (some ⟨w.heap.size + 1, 0, none⟩)) := (blk_cell S_6 0).trans rfl
          have Sc1 : w6.cell? ⟨w.heap.size + 1 + 1 + 1 + 1, 1, none⟩ = some (.pointer (some ⟨w.heap.size + 1 + 1, 0, none⟩)) := (blk_cell S_6 1).trans rfl
          have Scf := blk_free S_6
          have Nl6 : w.heap.size < w6.heap.size := by omega
          have Pl6 : w.heap.size + 1 < w6.heap.size := by omega
          have Ql6 : w.heap.size + 1 + 1 < w6.heap.size := by omega
          have Rl6 : w.heap.size + 1 + 1 + 1 < w6.heap.size := by omega
          have Sl6 : w.heap.size + 1 + 1 + 1 + 1 < w6.heap.size := by omega
          go_wp2_with fail
          refine (G2.out _).mono ?_
          rintro e w7 ⟨rfl, hb7⟩
          have hs7 := hb7.size
          try simp only [World.size_alloc, World.size_setCell] at hs7
          have N_7 : w7.heap[w.heap.size]? = some (.cells #[.int .u64 a1, .int .u64 b1, .int .u64 c1] 63 (0, 0)) := below_at hb7 (by first | omega | (simp; done) | (simp; omega)) (by (repeat (first | (with_reducible assumption) | (with_reducible exact alloc_at _ _) | ((with_reducible apply alloc_at'); (simp; done)) | (with_reducible apply alloc_at_lt) | (with_reducible apply heap_drew_at) | (with_reducible apply heap_drewN_at) | (with_reducible apply heap_setCell_same) | ((with_reducible apply heap_set_ne); (first | omega | (dsimp only; omega) | (simp; done) | (simp; omega))) | (with_reducible apply setRow_at) | ((with_reducible apply setRow_ne); (first | omega | (dsimp only; omega) | (simp; done) | (simp; omega))))))
          have P_7 : w7.heap[w.heap.size + 1]? = some (.cells #[.int .u64 p1] 22 (0, 0)) := below_at hb7 (by first | omega | (simp; done) | (simp; omega)) (by (repeat (first | (with_reducible assumption) | (with_reducible exact alloc_at _ _) | ((with_reducible apply alloc_at'); (simp; done)) | (with_reducible apply alloc_at_lt) | (with_reducible apply heap_drew_at) | (with_reducible apply heap_drewN_at) | (with_reducible apply heap_setCell_same) | ((with_reducible apply heap_set_ne); (first | omega | (dsimp only; omega) | (simp; done) | (simp; omega))) | (with_reducible apply setRow_at) | ((with_reducible apply setRow_ne); (first | omega | (dsimp only; omega) | (simp; done) | (simp; omega))))))
          have Q_7 : w7.heap[w.heap.size + 1 + 1]? = some (.cells #[.int .u64 q] 22 (0, 0)) := below_at hb7 (by first | omega | (simp; done) | (simp; omega)) (by (repeat (first | (with_reducible assumption) | (with_reducible exact alloc_at _ _) | ((with_reducible apply alloc_at'); (simp; done)) | (with_reducible apply alloc_at_lt) | (with_reducible apply heap_drew_at) | (with_reducible apply heap_drewN_at) | (with_reducible apply heap_setCell_same) | ((with_reducible apply heap_set_ne); (first | omega | (dsimp only; omega) | (simp; done) | (simp; omega))) | (with_reducible apply setRow_at) | ((with_reducible apply setRow_ne); (first | omega | (dsimp only; omega) | (simp; done) | (simp; omega))))))
          have R_7 : w7.heap[w.heap.size + 1 + 1 + 1]? = some (.cells #[.int .u64 0, .int .u64 0] 24 (0, 0)) := below_at hb7 (by first | omega | (simp; done) | (simp; omega)) (by (repeat (first | (with_reducible assumption) | (with_reducible exact alloc_at _ _) | ((with_reducible apply alloc_at'); (simp; done)) | (with_reducible apply alloc_at_lt) | (with_reducible apply heap_drew_at) | (with_reducible apply heap_drewN_at) | (with_reducible apply heap_setCell_same) | ((with_reducible apply heap_set_ne); (first | omega | (dsimp only; omega) | (simp; done) | (simp; omega))) | (with_reducible apply setRow_at) | ((with_reducible apply setRow_ne); (first | omega | (dsimp only; omega) | (simp; done) | (simp; omega))))))
          have S_7 : w7.heap[w.heap.size + 1 + 1 + 1 + 1]? = some (.cells #[.pointer (some ⟨w.heap.size + 1, 0, none⟩), .pointer (some ⟨w.heap.size + 1 + 1, 0, none⟩)] 72 (0, 0)) := below_at hb7 (by first | omega | (simp; done) | (simp; omega)) (by (repeat (first | (with_reducible assumption) | (with_reducible exact alloc_at _ _) | ((with_reducible apply alloc_at'); (simp; done)) | (with_reducible apply alloc_at_lt) | (with_reducible apply heap_drew_at) | (with_reducible apply heap_drewN_at) | (with_reducible apply heap_setCell_same) | ((with_reducible apply heap_set_ne); (first | omega | (dsimp only; omega) | (simp; done) | (simp; omega))) | (with_reducible apply setRow_at) | ((with_reducible apply setRow_ne); (first | omega | (dsimp only; omega) | (simp; done) | (simp; omega))))))
          have B7 : Below w.heap.size w w7 := Below.trans (by repeat (first | with_reducible assumption | with_reducible exact Below.refl _ _ | with_reducible refine Below.drew ?_ | with_reducible refine below_drewN ?_ _ | with_reducible refine below_alloc ?_ _ | with_reducible refine Below.alloc ?_ (by first | omega | (simp; done) | (simp; omega)) _ | with_reducible refine Below.setCell ?_ (by first | omega | (simp; done) | (simp; omega)) _ | with_reducible refine below_setRow ?_ (by first | omega | (simp; done) | (simp; omega)) _)) (hb7.mono (by first | omega | (simp; done) | (simp; omega)))
          clear hb7 N_6 P_6 Q_6 R_6 S_6
          clear Nc0 Nc1 Nc2 Ncf
          clear Pc0 Pcf
          clear Qc0 Qcf
          clear Rc0 Rc1 Rcf
          clear Sc0 Sc1 Scf
          have Nc0 : w7.cell? ⟨w.heap.size, 0, none⟩ = some (.int .u64 a1) := (blk_cell N_7 0).trans rfl
          have Nc1 : w7.cell? ⟨w.heap.size, 1, none⟩ = some (.int .u64 b1) := (blk_cell N_7 1).trans rfl
          have Nc2 : w7.cell? ⟨w.heap.size, 2, none⟩ = some (.int .u64 c1) := (blk_cell N_7 2).trans rfl
          have Ncf := blk_free N_7
          have Pc0 : w7.cell? ⟨w.heap.size + 1, 0, none⟩ = some (.int .u64 p1) := (blk_cell P_7 0).trans rfl
          have Pcf := blk_free P_7
          have Qc0 : w7.cell? ⟨w.heap.size + 1 + 1, 0, none⟩ = some (.int .u64 q) := (blk_cell Q_7 0).trans rfl
          have Qcf := blk_free Q_7
          have Rc0 : w7.cell? ⟨w.heap.size + 1 + 1 + 1, 0, none⟩ = some (.int .u64 0) := (blk_cell R_7 0).trans rfl
          have Rc1 : w7.cell? ⟨w.heap.size + 1 + 1 + 1, 1, none⟩ = some (.int .u64 0) := (blk_cell R_7 1).trans rfl
          have Rcf := blk_free R_7
          have Sc0 : w7.cell? ⟨w.heap.size + 1 + 1 + 1 + 1, 0, none⟩ = some (.pointer (some ⟨w.heap.size + 1, 0, none⟩)) := (blk_cell S_7 0).trans rfl
          have Sc1 : w7.cell? ⟨w.heap.size + 1 + 1 + 1 + 1, 1, none⟩ = some (.pointer (some ⟨w.heap.size + 1 + 1, 0, none⟩)) := (blk_cell S_7 1).trans rfl
          have Scf := blk_free S_7
          have Nl7 : w.heap.size < w7.heap.size := by omega
          have Pl7 : w.heap.size + 1 < w7.heap.size := by omega
          have Ql7 : w.heap.size + 1 + 1 < w7.heap.size := by omega
          have Rl7 : w.heap.size + 1 + 1 + 1 < w7.heap.size := by omega
          have Sl7 : w.heap.size + 1 + 1 + 1 + 1 < w7.heap.size := by omega
          go_wp2_with fail
          refine (D4.out _).mono ?_
          rintro e w8 ⟨rfl, hb8⟩
          have hs8 := hb8.size
          try simp only [World.size_alloc, World.size_setCell] at hs8
          have N_8 : w8.heap[w.heap.size]? = some (.cells #[.int .u64 a1, .int .u64 b1, .int .u64 c1] 63 (0, 0)) := below_at hb8 (by first | omega | (simp; done) | (simp; omega)) (by (repeat (first | (with_reducible assumption) | (with_reducible exact alloc_at _ _) | ((with_reducible apply alloc_at'); (simp; done)) | (with_reducible apply alloc_at_lt) | (with_reducible apply heap_drew_at) | (with_reducible apply heap_drewN_at) | (with_reducible apply heap_setCell_same) | ((with_reducible apply heap_set_ne); (first | omega | (dsimp only; omega) | (simp; done) | (simp; omega))) | (with_reducible apply setRow_at) | ((with_reducible apply setRow_ne); (first | omega | (dsimp only; omega) | (simp; done) | (simp; omega))))))
          have P_8 : w8.heap[w.heap.size + 1]? = some (.cells #[.int .u64 p1] 22 (0, 0)) := below_at hb8 (by first | omega | (simp; done) | (simp; omega)) (by (repeat (first | (with_reducible assumption) | (with_reducible exact alloc_at _ _) | ((with_reducible apply alloc_at'); (simp; done)) | (with_reducible apply alloc_at_lt) | (with_reducible apply heap_drew_at) | (with_reducible apply heap_drewN_at) | (with_reducible apply heap_setCell_same) | ((with_reducible apply heap_set_ne); (first | omega | (dsimp only; omega) | (simp; done) | (simp; omega))) | (with_reducible apply setRow_at) | ((with_reducible apply setRow_ne); (first | omega | (dsimp only; omega) | (simp; done) | (simp; omega))))))
          have Q_8 : w8.heap[w.heap.size + 1 + 1]? = some (.cells #[.int .u64 q] 22 (0, 0)) := below_at hb8 (by first | omega | (simp; done) | (simp; omega)) (by (repeat (first | (with_reducible assumption) | (with_reducible exact alloc_at _ _) | ((with_reducible apply alloc_at'); (simp; done)) | (with_reducible apply alloc_at_lt) | (with_reducible apply heap_drew_at) | (with_reducible apply heap_drewN_at) | (with_reducible apply heap_setCell_same) | ((with_reducible apply heap_set_ne); (first | omega | (dsimp only; omega) | (simp; done) | (simp; omega))) | (with_reducible apply setRow_at) | ((with_reducible apply setRow_ne); (first | omega | (dsimp only; omega) | (simp; done) | (simp; omega))))))
          have R_8 : w8.heap[w.heap.size + 1 + 1 + 1]? = some (.cells #[.int .u64 0, .int .u64 0] 24 (0, 0)) := below_at hb8 (by first | omega | (simp; done) | (simp; omega)) (by (repeat (first | (with_reducible assumption) | (with_reducible exact alloc_at _ _) | ((with_reducible apply alloc_at'); (simp; done)) | (with_reducible apply alloc_at_lt) | (with_reducible apply heap_drew_at) | (with_reducible apply heap_drewN_at) | (with_reducible apply heap_setCell_same) | ((with_reducible apply heap_set_ne); (first | omega | (dsimp only; omega) | (simp; done) | (simp; omega))) | (with_reducible apply setRow_at) | ((with_reducible apply setRow_ne); (first | omega | (dsimp only; omega) | (simp; done) | (simp; omega))))))
          have S_8 : w8.heap[w.heap.size + 1 + 1 + 1 + 1]? = some (.cells #[.pointer (some ⟨w.heap.size + 1, 0, none⟩), .pointer (some ⟨w.heap.size + 1 + 1, 0, none⟩)] 72 (0, 0)) := below_at hb8 (by first | omega | (simp; done) | (simp; omega)) (by (repeat (first | (with_reducible assumption) | (with_reducible exact alloc_at _ _) | ((with_reducible apply alloc_at'); (simp; done)) | (with_reducible apply alloc_at_lt) | (with_reducible apply heap_drew_at) | (with_reducible apply heap_drewN_at) | (with_reducible apply heap_setCell_same) | ((with_reducible apply heap_set_ne); (first | omega | (dsimp only; omega) | (simp; done) | (simp; omega))) | (with_reducible apply setRow_at) | ((with_reducible apply setRow_ne); (first | omega | (dsimp only; omega) | (simp; done) | (simp; omega))))))
          have B8 : Below w.heap.size w w8 := Below.trans (by repeat (first | with_reducible assumption | with_reducible exact Below.refl _ _ | with_reducible refine Below.drew ?_ | with_reducible refine below_drewN ?_ _ | with_reducible refine below_alloc ?_ _ | with_reducible refine Below.alloc ?_ (by first | omega | (simp; done) | (simp; omega)) _ | with_reducible refine Below.setCell ?_ (by first | omega | (simp; done) | (simp; omega)) _ | with_reducible refine below_setRow ?_ (by first | omega | (simp; done) | (simp; omega)) _)) (hb8.mono (by first | omega | (simp; done) | (simp; omega)))
          clear hb8 N_7 P_7 Q_7 R_7 S_7
          clear Nc0 Nc1 Nc2 Ncf
          clear Pc0 Pcf
          clear Qc0 Qcf
          clear Rc0 Rc1 Rcf
          clear Sc0 Sc1 Scf
          have Nc0 : w8.cell? ⟨w.heap.size, 0, none⟩ = some (.int .u64 a1) := (blk_cell N_8 0).trans rfl
          have Nc1 : w8.cell? ⟨w.heap.size, 1, none⟩ = some (.int .u64 b1) := (blk_cell N_8 1).trans rfl
          have Nc2 : w8.cell? ⟨w.heap.size, 2, none⟩ = some (.int .u64 c1) := (blk_cell N_8 2).trans rfl
          have Ncf := blk_free N_8
          have Pc0 : w8.cell? ⟨w.heap.size + 1, 0, none⟩ = some (.int .u64 p1) := (blk_cell P_8 0).trans rfl
          have Pcf := blk_free P_8
          have Qc0 : w8.cell? ⟨w.heap.size + 1 + 1, 0, none⟩ = some (.int .u64 q) := (blk_cell Q_8 0).trans rfl
          have Qcf := blk_free Q_8
          have Rc0 : w8.cell? ⟨w.heap.size + 1 + 1 + 1, 0, none⟩ = some (.int .u64 0) := (blk_cell R_8 0).trans rfl
          have Rc1 : w8.cell? ⟨w.heap.size + 1 + 1 + 1, 1, none⟩ = some (.int .u64 0) := (blk_cell R_8 1).trans rfl
          have Rcf := blk_free R_8
          have Sc0 : w8.cell? ⟨w.heap.size + 1 + 1 + 1 + 1, 0, none⟩ = some (.pointer (some ⟨w.heap.size + 1, 0, none⟩)) := (blk_cell S_8 0).trans rfl
          have Sc1 : w8.cell? ⟨w.heap.size + 1 + 1 + 1 + 1, 1, none⟩ = some (.pointer (some ⟨w.heap.size + 1 + 1, 0, none⟩)) := (blk_cell S_8 1).trans rfl
          have Scf := blk_free S_8
          have Nl8 : w.heap.size < w8.heap.size := by omega
          have Pl8 : w.heap.size + 1 < w8.heap.size := by omega
          have Ql8 : w.heap.size + 1 + 1 < w8.heap.size := by omega
          have Rl8 : w.heap.size + 1 + 1 + 1 < w8.heap.size := by omega
          have Sl8 : w.heap.size + 1 + 1 + 1 + 1 < w8.heap.size := by omega
          have hq_q1 := E2.out
          go_wp2_with fail
          clear hq_q1
          rw [rounds_succ]
          go_wp2_with fail
          refine (HM.out _).mono ?_
          rintro e wz ⟨rfl, rfl⟩
          go_wp2
          refine ret_row2 rfl (w.heap.size + 1 + 1 + 1) #[.int .u64 0, .int .u64 0] 24 _ rfl Try.underlying24 rfl infoR rfl (by apply Exists.intro; refine ⟨?_, ?_⟩; (focus ((repeat (first | (with_reducible assumption) | (with_reducible exact alloc_at _ _) | ((with_reducible apply alloc_at'); (simp; done)) | (with_reducible apply alloc_at_lt) | (with_reducible apply heap_drew_at) | (with_reducible apply heap_drewN_at) | (with_reducible apply heap_setCell_same) | ((with_reducible apply heap_set_ne); (first | omega | (dsimp only; omega) | (simp; done) | (simp; omega))) | (with_reducible apply setRow_at) | ((with_reducible apply setRow_ne); (first | omega | (dsimp only; omega) | (simp; done) | (simp; omega))))))); simp) ⟨rfl, (by repeat (first | with_reducible assumption | with_reducible exact Below.refl _ _ | with_reducible refine Below.drew ?_ | with_reducible refine below_drewN ?_ _ | with_reducible refine below_alloc ?_ _ | with_reducible refine Below.alloc ?_ (by first | omega | (simp; done) | (simp; omega)) _ | with_reducible refine Below.setCell ?_ (by first | omega | (simp; done) | (simp; omega)) _ | with_reducible refine below_setRow ?_ (by first | omega | (simp; done) | (simp; omega)) _))⟩
set_option maxRecDepth 100000 in
set_option maxHeartbeats 4000000 in
theorem over_c (a b c p q r1 g1 a1 b1 c1 v1 p1 r2 g2 a2 b2 c2 v2 q1 h l u0 u1 u2 u3 u4 u5 : Int) (w : World) (bp : 0 ≤ p) (bg1 : 1 ≤ g1) (bq : 0 ≤ q) (bg2 : 1 ≤ g2) (bp1 : 0 ≤ p1) (bp2 : p1 ≤ 18446744073709551615) (bq1 : 0 ≤ q1) (bq2 : q1 ≤ 18446744073709551615) (hs : (a2 != 0) = false) (ht : (b2 != 0) = false) (hh : (h != 0) = true)
    (D1 : Hid (∀ W, Calls Try.prog 44 #[.agg #[.int .u64 a, .int .u64 b, .int .u64 c], .int .u64 p] W fun e w' => e = .returned (.tuple #[.agg #[.int .u64 u0, .int .u64 u1, .int .u64 u2], .int .u64 r1]) ∧ Below W.heap.size W w')) (G1 : Hid (∀ W, Calls Try.prog 32 #[.int .u64 p, .int .u64 r1] W fun e w' => e = .returned (.int .u64 g1) ∧ Below W.heap.size W w')) (D2 : Hid (∀ W, Calls Try.prog 44 #[.agg #[.int .u64 a, .int .u64 b, .int .u64 c], .int .u64 g1] W fun e w' => e = .returned (.tuple #[.agg #[.int .u64 a1, .int .u64 b1, .int .u64 c1], .int .u64 v1]) ∧ Below W.heap.size W w')) (E1 : Hid (IntKind.u64.wrap (p.tdiv g1) = p1))
    (D3 : Hid (∀ W, Calls Try.prog 44 #[.agg #[.int .u64 a1, .int .u64 b1, .int .u64 c1], .int .u64 q] W fun e w' => e = .returned (.tuple #[.agg #[.int .u64 u3, .int .u64 u4, .int .u64 u5], .int .u64 r2]) ∧ Below W.heap.size W w')) (G2 : Hid (∀ W, Calls Try.prog 32 #[.int .u64 q, .int .u64 r2] W fun e w' => e = .returned (.int .u64 g2) ∧ Below W.heap.size W w')) (D4 : Hid (∀ W, Calls Try.prog 44 #[.agg #[.int .u64 a1, .int .u64 b1, .int .u64 c1], .int .u64 g2] W fun e w' => e = .returned (.tuple #[.agg #[.int .u64 a2, .int .u64 b2, .int .u64 c2], .int .u64 v2]) ∧ Below W.heap.size W w')) (E2 : Hid (IntKind.u64.wrap (q.tdiv g2) = q1))
    (HM : Hid (∀ W, Calls Try.prog 22 #[.int .u64 p1, .int .u64 q1] W fun e w' => e = .returned (.tuple #[.int .u64 h, .int .u64 l]) ∧ W = w')) :
    Calls Try.prog 38 #[.agg #[.int .u64 a, .int .u64 b, .int .u64 c], .int .u64 p, .int .u64 q] w fun e w' => e = .returned (.tuple #[.agg #[.int .u64 0, .int .u64 0], .int .i64 7]) ∧ Below w.heap.size w w' := by
  go_enter Try.func38, Try.ntmps38
  go_wp2_with fail
  refine wp_loop_rounds 3 ?_
  rw [rounds_succ]
  go_upto_region 3 with fail
  go_cut [9] (fun s wx => s = .pointer (some ⟨w.heap.size + 1, 0, none⟩) ∧ Below w.heap.size w wx ∧ wx.heap[w.heap.size]? = some (.cells #[.int .u64 a, .int .u64 b, .int .u64 c] 63 (0, 0)) ∧ wx.heap[w.heap.size + 1]? = some (.cells #[.int .u64 p] 22 (0, 0)) ∧ wx.heap[w.heap.size + 1 + 1]? = some (.cells #[.int .u64 q] 22 (0, 0)) ∧ wx.heap[w.heap.size + 1 + 1 + 1]? = some (.cells #[.int .u64 0, .int .u64 0] 24 (0, 0)) ∧ wx.heap[w.heap.size + 1 + 1 + 1 + 1]? = some (.cells #[.pointer (some ⟨w.heap.size + 1, 0, none⟩), .pointer (some ⟨w.heap.size + 1 + 1, 0, none⟩)] 72 (0, 0)))
  case first =>
    go_wp2
    go_meet
    exact ⟨rfl, (by repeat (first | with_reducible assumption | with_reducible exact Below.refl _ _ | with_reducible refine Below.drew ?_ | with_reducible refine below_drewN ?_ _ | with_reducible refine below_alloc ?_ _ | with_reducible refine Below.alloc ?_ (by first | omega | (simp; done) | (simp; omega)) _ | with_reducible refine Below.setCell ?_ (by first | omega | (simp; done) | (simp; omega)) _ | with_reducible refine below_setRow ?_ (by first | omega | (simp; done) | (simp; omega)) _)), (at_of (by apply Exists.intro; refine ⟨?_, ?_⟩; (focus ((repeat (first | (with_reducible assumption) | (with_reducible exact alloc_at _ _) | ((with_reducible apply alloc_at'); (simp; done)) | (with_reducible apply alloc_at_lt) | (with_reducible apply heap_drew_at) | (with_reducible apply heap_drewN_at) | (with_reducible apply heap_setCell_same) | ((with_reducible apply heap_set_ne); (first | omega | (dsimp only; omega) | (simp; done) | (simp; omega))) | (with_reducible apply setRow_at) | ((with_reducible apply setRow_ne); (first | omega | (dsimp only; omega) | (simp; done) | (simp; omega))))))); simp)), (at_of (by apply Exists.intro; refine ⟨?_, ?_⟩; (focus ((repeat (first | (with_reducible assumption) | (with_reducible exact alloc_at _ _) | ((with_reducible apply alloc_at'); (simp; done)) | (with_reducible apply alloc_at_lt) | (with_reducible apply heap_drew_at) | (with_reducible apply heap_drewN_at) | (with_reducible apply heap_setCell_same) | ((with_reducible apply heap_set_ne); (first | omega | (dsimp only; omega) | (simp; done) | (simp; omega))) | (with_reducible apply setRow_at) | ((with_reducible apply setRow_ne); (first | omega | (dsimp only; omega) | (simp; done) | (simp; omega))))))); simp)), (at_of (by apply Exists.intro; refine ⟨?_, ?_⟩; (focus ((repeat (first | (with_reducible assumption) | (with_reducible exact alloc_at _ _) | ((with_reducible apply alloc_at'); (simp; done)) | (with_reducible apply alloc_at_lt) | (with_reducible apply heap_drew_at) | (with_reducible apply heap_drewN_at) | (with_reducible apply heap_setCell_same) | ((with_reducible apply heap_set_ne); (first | omega | (dsimp only; omega) | (simp; done) | (simp; omega))) | (with_reducible apply setRow_at) | ((with_reducible apply setRow_ne); (first | omega | (dsimp only; omega) | (simp; done) | (simp; omega))))))); simp)), (at_of (by apply Exists.intro; refine ⟨?_, ?_⟩; (focus ((repeat (first | (with_reducible assumption) | (with_reducible exact alloc_at _ _) | ((with_reducible apply alloc_at'); (simp; done)) | (with_reducible apply alloc_at_lt) | (with_reducible apply heap_drew_at) | (with_reducible apply heap_drewN_at) | (with_reducible apply heap_setCell_same) | ((with_reducible apply heap_set_ne); (first | omega | (dsimp only; omega) | (simp; done) | (simp; omega))) | (with_reducible apply setRow_at) | ((with_reducible apply setRow_ne); (first | omega | (dsimp only; omega) | (simp; done) | (simp; omega))))))); simp)), (at_of (by apply Exists.intro; refine ⟨?_, ?_⟩; (focus ((repeat (first | (with_reducible assumption) | (with_reducible exact alloc_at _ _) | ((with_reducible apply alloc_at'); (simp; done)) | (with_reducible apply alloc_at_lt) | (with_reducible apply heap_drew_at) | (with_reducible apply heap_drewN_at) | (with_reducible apply heap_setCell_same) | ((with_reducible apply heap_set_ne); (first | omega | (dsimp only; omega) | (simp; done) | (simp; omega))) | (with_reducible apply setRow_at) | ((with_reducible apply setRow_ne); (first | omega | (dsimp only; omega) | (simp; done) | (simp; omega))))))); simp))⟩
  case rest =>
    obtain ⟨rfl, B1, N_1, P_1, Q_1, R_1, S_1⟩ := hcut
    obtain ⟨w1, rfl⟩ : ∃ x : World, x = wc := ⟨_, rfl⟩
    have Nc0 : w1.cell? ⟨w.heap.size, 0, none⟩ = some (.int .u64 a) := (blk_cell N_1 0).trans rfl
    have Nc1 : w1.cell? ⟨w.heap.size, 1, none⟩ = some (.int .u64 b) := (blk_cell N_1 1).trans rfl
    have Nc2 : w1.cell? ⟨w.heap.size, 2, none⟩ = some (.int .u64 c) := (blk_cell N_1 2).trans rfl
    have Ncf := blk_free N_1
    have Pc0 : w1.cell? ⟨w.heap.size + 1, 0, none⟩ = some (.int .u64 p) := (blk_cell P_1 0).trans rfl
    have Pcf := blk_free P_1
    have Qc0 : w1.cell? ⟨w.heap.size + 1 + 1, 0, none⟩ = some (.int .u64 q) := (blk_cell Q_1 0).trans rfl
    have Qcf := blk_free Q_1
    have Rc0 : w1.cell? ⟨w.heap.size + 1 + 1 + 1, 0, none⟩ = some (.int .u64 0) := (blk_cell R_1 0).trans rfl
    have Rc1 : w1.cell? ⟨w.heap.size + 1 + 1 + 1, 1, none⟩ = some (.int .u64 0) := (blk_cell R_1 1).trans rfl
    have Rcf := blk_free R_1
    have Sc0 : w1.cell? ⟨w.heap.size + 1 + 1 + 1 + 1, 0, none⟩ = some (.pointer (some ⟨w.heap.size + 1, 0, none⟩)) := (blk_cell S_1 0).trans rfl
    have Sc1 : w1.cell? ⟨w.heap.size + 1 + 1 + 1 + 1, 1, none⟩ = some (.pointer (some ⟨w.heap.size + 1 + 1, 0, none⟩)) := (blk_cell S_1 1).trans rfl
    have Scf := blk_free S_1
    have Nl1 : w.heap.size < w1.heap.size := lt_of_at N_1
    have Pl1 : w.heap.size + 1 < w1.heap.size := lt_of_at P_1
    have Ql1 : w.heap.size + 1 + 1 < w1.heap.size := lt_of_at Q_1
    have Rl1 : w.heap.size + 1 + 1 + 1 < w1.heap.size := lt_of_at R_1
    have Sl1 : w.heap.size + 1 + 1 + 1 + 1 < w1.heap.size := lt_of_at S_1
    go_upto_region 4 with fail
    go_cut [11] (fun s0_ wx => s0_ = .int .u64 r1 ∧ Below w1.heap.size w1 wx)
    case first =>
      go_region_held3 (fun w' => Below w1.heap.size w1 w' ∧ (∀ b o, b < w1.heap.size → w'.cell? ⟨b, o, none⟩ = w1.cell? ⟨b, o, none⟩) ∧ ∀ b o, b < w1.heap.size → w'.frozen? ⟨b, o, none⟩ = w1.frozen? ⟨b, o, none⟩) (first | ((try go_split_ands); (try dsimp only); refine same_of ?_; (repeat (first | with_reducible assumption | with_reducible exact Below.refl _ _ | with_reducible refine Below.drew ?_ | with_reducible refine below_drewN ?_ _ | with_reducible refine below_alloc ?_ _ | with_reducible refine Below.alloc ?_ (by first | omega | (simp; done) | (simp; omega)) _ | with_reducible refine Below.setCell ?_ (by first | omega | (simp; done) | (simp; omega)) _ | with_reducible refine below_setRow ?_ (by first | omega | (simp; done) | (simp; omega)) _)); done) | ((try go_split_ands); (try dsimp only); refine same_of ?_; (repeat (first | with_reducible refine below_call ?_ hb99 | with_reducible assumption | with_reducible exact Below.refl _ _ | with_reducible refine Below.drew ?_ | with_reducible refine below_alloc ?_ _)); done)) (first | (go_at_call 44; refine (D1.out _).mono ?_; rintro e w99 ⟨rfl, hb99⟩; obtain ⟨hc99, hf99⟩ := bcell hb99))
      all_goals
        obtain ⟨hb98, -, -⟩ : Below w1.heap.size w1 _ ∧ _ ∧ _ := by assumption
        go_wp2_with fail
        go_meet
        exact ⟨by first | rfl | (simp; done) | (simp; omega), hb98⟩
    case rest =>
      obtain ⟨rfl, hb2⟩ := hcut
      obtain ⟨w2, rfl⟩ : ∃ x : World, x = wc := ⟨_, rfl⟩
      have hs2 := hb2.size
      try simp only [World.size_alloc, World.size_setCell] at hs2
      have N_2 : w2.heap[w.heap.size]? = some (.cells #[.int .u64 a, .int .u64 b, .int .u64 c] 63 (0, 0)) := below_at hb2 (by first | omega | (simp; done) | (simp; omega)) (by (repeat (first | (with_reducible assumption) | (with_reducible exact alloc_at _ _) | ((with_reducible apply alloc_at'); (simp; done)) | (with_reducible apply alloc_at_lt) | (with_reducible apply heap_drew_at) | (with_reducible apply heap_drewN_at) | (with_reducible apply heap_setCell_same) | ((with_reducible apply heap_set_ne); (first | omega | (dsimp only; omega) | (simp; done) | (simp; omega))) | (with_reducible apply setRow_at) | ((with_reducible apply setRow_ne); (first | omega | (dsimp only; omega) | (simp; done) | (simp; omega))))))
      have P_2 : w2.heap[w.heap.size + 1]? = some (.cells #[.int .u64 p] 22 (0, 0)) := below_at hb2 (by first | omega | (simp; done) | (simp; omega)) (by (repeat (first | (with_reducible assumption) | (with_reducible exact alloc_at _ _) | ((with_reducible apply alloc_at'); (simp; done)) | (with_reducible apply alloc_at_lt) | (with_reducible apply heap_drew_at) | (with_reducible apply heap_drewN_at) | (with_reducible apply heap_setCell_same) | ((with_reducible apply heap_set_ne); (first | omega | (dsimp only; omega) | (simp; done) | (simp; omega))) | (with_reducible apply setRow_at) | ((with_reducible apply setRow_ne); (first | omega | (dsimp only; omega) | (simp; done) | (simp; omega))))))
      have Q_2 : w2.heap[w.heap.size + 1 + 1]? = some (.cells #[.int .u64 q] 22 (0, 0)) := below_at hb2 (by first | omega | (simp; done) | (simp; omega)) (by (repeat (first | (with_reducible assumption) | (with_reducible exact alloc_at _ _) | ((with_reducible apply alloc_at'); (simp; done)) | (with_reducible apply alloc_at_lt) | (with_reducible apply heap_drew_at) | (with_reducible apply heap_drewN_at) | (with_reducible apply heap_setCell_same) | ((with_reducible apply heap_set_ne); (first | omega | (dsimp only; omega) | (simp; done) | (simp; omega))) | (with_reducible apply setRow_at) | ((with_reducible apply setRow_ne); (first | omega | (dsimp only; omega) | (simp; done) | (simp; omega))))))
      have R_2 : w2.heap[w.heap.size + 1 + 1 + 1]? = some (.cells #[.int .u64 0, .int .u64 0] 24 (0, 0)) := below_at hb2 (by first | omega | (simp; done) | (simp; omega)) (by (repeat (first | (with_reducible assumption) | (with_reducible exact alloc_at _ _) | ((with_reducible apply alloc_at'); (simp; done)) | (with_reducible apply alloc_at_lt) | (with_reducible apply heap_drew_at) | (with_reducible apply heap_drewN_at) | (with_reducible apply heap_setCell_same) | ((with_reducible apply heap_set_ne); (first | omega | (dsimp only; omega) | (simp; done) | (simp; omega))) | (with_reducible apply setRow_at) | ((with_reducible apply setRow_ne); (first | omega | (dsimp only; omega) | (simp; done) | (simp; omega))))))
      have S_2 : w2.heap[w.heap.size + 1 + 1 + 1 + 1]? = some (.cells #[.pointer (some ⟨w.heap.size + 1, 0, none⟩), .pointer (some ⟨w.heap.size + 1 + 1, 0, none⟩)] 72 (0, 0)) := below_at hb2 (by first | omega | (simp; done) | (simp; omega)) (by (repeat (first | (with_reducible assumption) | (with_reducible exact alloc_at _ _) | ((with_reducible apply alloc_at'); (simp; done)) | (with_reducible apply alloc_at_lt) | (with_reducible apply heap_drew_at) | (with_reducible apply heap_drewN_at) | (with_reducible apply heap_setCell_same) | ((with_reducible apply heap_set_ne); (first | omega | (dsimp only; omega) | (simp; done) | (simp; omega))) | (with_reducible apply setRow_at) | ((with_reducible apply setRow_ne); (first | omega | (dsimp only; omega) | (simp; done) | (simp; omega))))))
      have B2 : Below w.heap.size w w2 := Below.trans (by repeat (first | with_reducible assumption | with_reducible exact Below.refl _ _ | with_reducible refine Below.drew ?_ | with_reducible refine below_drewN ?_ _ | with_reducible refine below_alloc ?_ _ | with_reducible refine Below.alloc ?_ (by first | omega | (simp; done) | (simp; omega)) _ | with_reducible refine Below.setCell ?_ (by first | omega | (simp; done) | (simp; omega)) _ | with_reducible refine below_setRow ?_ (by first | omega | (simp; done) | (simp; omega)) _)) (hb2.mono (by first | omega | (simp; done) | (simp; omega)))
      clear hb2 N_1 P_1 Q_1 R_1 S_1
      clear Nc0 Nc1 Nc2 Ncf
      clear Pc0 Pcf
      clear Qc0 Qcf
      clear Rc0 Rc1 Rcf
      clear Sc0 Sc1 Scf
      have Nc0 : w2.cell? ⟨w.heap.size, 0, none⟩ = some (.int .u64 a) := (blk_cell N_2 0).trans rfl
      have Nc1 : w2.cell? ⟨w.heap.size, 1, none⟩ = some (.int .u64 b) := (blk_cell N_2 1).trans rfl
      have Nc2 : w2.cell? ⟨w.heap.size, 2, none⟩ = some (.int .u64 c) := (blk_cell N_2 2).trans rfl
      have Ncf := blk_free N_2
      have Pc0 : w2.cell? ⟨w.heap.size + 1, 0, none⟩ = some (.int .u64 p) := (blk_cell P_2 0).trans rfl
      have Pcf := blk_free P_2
      have Qc0 : w2.cell? ⟨w.heap.size + 1 + 1, 0, none⟩ = some (.int .u64 q) := (blk_cell Q_2 0).trans rfl
      have Qcf := blk_free Q_2
      have Rc0 : w2.cell? ⟨w.heap.size + 1 + 1 + 1, 0, none⟩ = some (.int .u64 0) := (blk_cell R_2 0).trans rfl
      have Rc1 : w2.cell? ⟨w.heap.size + 1 + 1 + 1, 1, none⟩ = some (.int .u64 0) := (blk_cell R_2 1).trans rfl
      have Rcf := blk_free R_2
      have Sc0 : w2.cell? ⟨w.heap.size + 1 + 1 + 1 + 1, 0, none⟩ = some (.pointer (some ⟨w.heap.size + 1, 0, none⟩)) := (blk_cell S_2 0).trans rfl
      have Sc1 : w2.cell? ⟨w.heap.size + 1 + 1 + 1 + 1, 1, none⟩ = some (.pointer (some ⟨w.heap.size + 1 + 1, 0, none⟩)) := (blk_cell S_2 1).trans rfl
      have Scf := blk_free S_2
      have Nl2 : w.heap.size < w2.heap.size := by omega
      have Pl2 : w.heap.size + 1 < w2.heap.size := by omega
      have Ql2 : w.heap.size + 1 + 1 < w2.heap.size := by omega
      have Rl2 : w.heap.size + 1 + 1 + 1 < w2.heap.size := by omega
      have Sl2 : w.heap.size + 1 + 1 + 1 + 1 < w2.heap.size := by omega
      go_wp2_with fail
      refine (G1.out _).mono ?_
      rintro e w3 ⟨rfl, hb3⟩
      have hs3 := hb3.size
      try simp only [World.size_alloc, World.size_setCell] at hs3
      have N_3 : w3.heap[w.heap.size]? = some (.cells #[.int .u64 a, .int .u64 b, .int .u64 c] 63 (0, 0)) := below_at hb3 (by first | omega | (simp; done) | (simp; omega)) (by (repeat (first | (with_reducible assumption) | (with_reducible exact alloc_at _ _) | ((with_reducible apply alloc_at'); (simp; done)) | (with_reducible apply alloc_at_lt) | (with_reducible apply heap_drew_at) | (with_reducible apply heap_drewN_at) | (with_reducible apply heap_setCell_same) | ((with_reducible apply heap_set_ne); (first | omega | (dsimp only; omega) | (simp; done) | (simp; omega))) | (with_reducible apply setRow_at) | ((with_reducible apply setRow_ne); (first | omega | (dsimp only; omega) | (simp; done) | (simp; omega))))))
      have P_3 : w3.heap[w.heap.size + 1]? = some (.cells #[.int .u64 p] 22 (0, 0)) := below_at hb3 (by first | omega | (simp; done) | (simp; omega)) (by (repeat (first | (with_reducible assumption) | (with_reducible exact alloc_at _ _) | ((with_reducible apply alloc_at'); (simp; done)) | (with_reducible apply alloc_at_lt) | (with_reducible apply heap_drew_at) | (with_reducible apply heap_drewN_at) | (with_reducible apply heap_setCell_same) | ((with_reducible apply heap_set_ne); (first | omega | (dsimp only; omega) | (simp; done) | (simp; omega))) | (with_reducible apply setRow_at) | ((with_reducible apply setRow_ne); (first | omega | (dsimp only; omega) | (simp; done) | (simp; omega))))))
      have Q_3 : w3.heap[w.heap.size + 1 + 1]? = some (.cells #[.int .u64 q] 22 (0, 0)) := below_at hb3 (by first | omega | (simp; done) | (simp; omega)) (by (repeat (first | (with_reducible assumption) | (with_reducible exact alloc_at _ _) | ((with_reducible apply alloc_at'); (simp; done)) | (with_reducible apply alloc_at_lt) | (with_reducible apply heap_drew_at) | (with_reducible apply heap_drewN_at) | (with_reducible apply heap_setCell_same) | ((with_reducible apply heap_set_ne); (first | omega | (dsimp only; omega) | (simp; done) | (simp; omega))) | (with_reducible apply setRow_at) | ((with_reducible apply setRow_ne); (first | omega | (dsimp only; omega) | (simp; done) | (simp; omega))))))
      have R_3 : w3.heap[w.heap.size + 1 + 1 + 1]? = some (.cells #[.int .u64 0, .int .u64 0] 24 (0, 0)) := below_at hb3 (by first | omega | (simp; done) | (simp; omega)) (by (repeat (first | (with_reducible assumption) | (with_reducible exact alloc_at _ _) | ((with_reducible apply alloc_at'); (simp; done)) | (with_reducible apply alloc_at_lt) | (with_reducible apply heap_drew_at) | (with_reducible apply heap_drewN_at) | (with_reducible apply heap_setCell_same) | ((with_reducible apply heap_set_ne); (first | omega | (dsimp only; omega) | (simp; done) | (simp; omega))) | (with_reducible apply setRow_at) | ((with_reducible apply setRow_ne); (first | omega | (dsimp only; omega) | (simp; done) | (simp; omega))))))
      have S_3 : w3.heap[w.heap.size + 1 + 1 + 1 + 1]? = some (.cells #[.pointer (some ⟨w.heap.size + 1, 0, none⟩), .pointer (some ⟨w.heap.size + 1 + 1, 0, none⟩)] 72 (0, 0)) := below_at hb3 (by first | omega | (simp; done) | (simp; omega)) (by (repeat (first | (with_reducible assumption) | (with_reducible exact alloc_at _ _) | ((with_reducible apply alloc_at'); (simp; done)) | (with_reducible apply alloc_at_lt) | (with_reducible apply heap_drew_at) | (with_reducible apply heap_drewN_at) | (with_reducible apply heap_setCell_same) | ((with_reducible apply heap_set_ne); (first | omega | (dsimp only; omega) | (simp; done) | (simp; omega))) | (with_reducible apply setRow_at) | ((with_reducible apply setRow_ne); (first | omega | (dsimp only; omega) | (simp; done) | (simp; omega))))))
      have B3 : Below w.heap.size w w3 := Below.trans (by repeat (first | with_reducible assumption | with_reducible exact Below.refl _ _ | with_reducible refine Below.drew ?_ | with_reducible refine below_drewN ?_ _ | with_reducible refine below_alloc ?_ _ | with_reducible refine Below.alloc ?_ (by first | omega | (simp; done) | (simp; omega)) _ | with_reducible refine Below.setCell ?_ (by first | omega | (simp; done) | (simp; omega)) _ | with_reducible refine below_setRow ?_ (by first | omega | (simp; done) | (simp; omega)) _)) (hb3.mono (by first | omega | (simp; done) | (simp; omega)))
      clear hb3 N_2 P_2 Q_2 R_2 S_2
      clear Nc0 Nc1 Nc2 Ncf
      clear Pc0 Pcf
      clear Qc0 Qcf
      clear Rc0 Rc1 Rcf
      clear Sc0 Sc1 Scf
      have Nc0 : w3.cell? ⟨w.heap.size, 0, none⟩ = some (.int .u64 a) := (blk_cell N_3 0).trans rfl
      have Nc1 : w3.cell? ⟨w.heap.size, 1, none⟩ = some (.int .u64 b) := (blk_cell N_3 1).trans rfl
      have Nc2 : w3.cell? ⟨w.heap.size, 2, none⟩ = some (.int .u64 c) := (blk_cell N_3 2).trans rfl
      have Ncf := blk_free N_3
      have Pc0 : w3.cell? ⟨w.heap.size + 1, 0, none⟩ = some (.int .u64 p) := (blk_cell P_3 0).trans rfl
      have Pcf := blk_free P_3
      have Qc0 : w3.cell? ⟨w.heap.size + 1 + 1, 0, none⟩ = some (.int .u64 q) := (blk_cell Q_3 0).trans rfl
      have Qcf := blk_free Q_3
      have Rc0 : w3.cell? ⟨w.heap.size + 1 + 1 + 1, 0, none⟩ = some (.int .u64 0) := (blk_cell R_3 0).trans rfl
      have Rc1 : w3.cell? ⟨w.heap.size + 1 + 1 + 1, 1, none⟩ = some (.int .u64 0) := (blk_cell R_3 1).trans rfl
      have Rcf := blk_free R_3
      have Sc0 : w3.cell? ⟨w.heap.size + 1 + 1 + 1 + 1, 0, none⟩ = some (.pointer (some ⟨w.heap.size + 1, 0, none⟩)) := (blk_cell S_3 0).trans rfl
      have Sc1 : w3.cell? ⟨w.heap.size + 1 + 1 + 1 + 1, 1, none⟩ = some (.pointer (some ⟨w.heap.size + 1 + 1, 0, none⟩)) := (blk_cell S_3 1).trans rfl
      have Scf := blk_free S_3
      have Nl3 : w.heap.size < w3.heap.size := by omega
      have Pl3 : w.heap.size + 1 < w3.heap.size := by omega
      have Ql3 : w.heap.size + 1 + 1 < w3.heap.size := by omega
      have Rl3 : w.heap.size + 1 + 1 + 1 < w3.heap.size := by omega
      have Sl3 : w.heap.size + 1 + 1 + 1 + 1 < w3.heap.size := by omega
      go_wp2_with fail
      refine (D2.out _).mono ?_
      rintro e w4 ⟨rfl, hb4⟩
      have hs4 := hb4.size
      try simp only [World.size_alloc, World.size_setCell] at hs4
      have N_4 : w4.heap[w.heap.size]? = some (.cells #[.int .u64 a, .int .u64 b, .int .u64 c] 63 (0, 0)) := below_at hb4 (by first | omega | (simp; done) | (simp; omega)) (by (repeat (first | (with_reducible assumption) | (with_reducible exact alloc_at _ _) | ((with_reducible apply alloc_at'); (simp; done)) | (with_reducible apply alloc_at_lt) | (with_reducible apply heap_drew_at) | (with_reducible apply heap_drewN_at) | (with_reducible apply heap_setCell_same) | ((with_reducible apply heap_set_ne); (first | omega | (dsimp only; omega) | (simp; done) | (simp; omega))) | (with_reducible apply setRow_at) | ((with_reducible apply setRow_ne); (first | omega | (dsimp only; omega) | (simp; done) | (simp; omega))))))
      have P_4 : w4.heap[w.heap.size + 1]? = some (.cells #[.int .u64 p] 22 (0, 0)) := below_at hb4 (by first | omega | (simp; done) | (simp; omega)) (by (repeat (first | (with_reducible assumption) | (with_reducible exact alloc_at _ _) | ((with_reducible apply alloc_at'); (simp; done)) | (with_reducible apply alloc_at_lt) | (with_reducible apply heap_drew_at) | (with_reducible apply heap_drewN_at) | (with_reducible apply heap_setCell_same) | ((with_reducible apply heap_set_ne); (first | omega | (dsimp only; omega) | (simp; done) | (simp; omega))) | (with_reducible apply setRow_at) | ((with_reducible apply setRow_ne); (first | omega | (dsimp only; omega) | (simp; done) | (simp; omega))))))
      have Q_4 : w4.heap[w.heap.size + 1 + 1]? = some (.cells #[.int .u64 q] 22 (0, 0)) := below_at hb4 (by first | omega | (simp; done) | (simp; omega)) (by (repeat (first | (with_reducible assumption) | (with_reducible exact alloc_at _ _) | ((with_reducible apply alloc_at'); (simp; done)) | (with_reducible apply alloc_at_lt) | (with_reducible apply heap_drew_at) | (with_reducible apply heap_drewN_at) | (with_reducible apply heap_setCell_same) | ((with_reducible apply heap_set_ne); (first | omega | (dsimp only; omega) | (simp; done) | (simp; omega))) | (with_reducible apply setRow_at) | ((with_reducible apply setRow_ne); (first | omega | (dsimp only; omega) | (simp; done) | (simp; omega))))))
      have R_4 : w4.heap[w.heap.size + 1 + 1 + 1]? = some (.cells #[.int .u64 0, .int .u64 0] 24 (0, 0)) := below_at hb4 (by first | omega | (simp; done) | (simp; omega)) (by (repeat (first | (with_reducible assumption) | (with_reducible exact alloc_at _ _) | ((with_reducible apply alloc_at'); (simp; done)) | (with_reducible apply alloc_at_lt) | (with_reducible apply heap_drew_at) | (with_reducible apply heap_drewN_at) | (with_reducible apply heap_setCell_same) | ((with_reducible apply heap_set_ne); (first | omega | (dsimp only; omega) | (simp; done) | (simp; omega))) | (with_reducible apply setRow_at) | ((with_reducible apply setRow_ne); (first | omega | (dsimp only; omega) | (simp; done) | (simp; omega))))))
      have S_4 : w4.heap[w.heap.size + 1 + 1 + 1 + 1]? = some (.cells #[.pointer (some ⟨w.heap.size + 1, 0, none⟩), .pointer (some ⟨w.heap.size + 1 + 1, 0, none⟩)] 72 (0, 0)) := below_at hb4 (by first | omega | (simp; done) | (simp; omega)) (by (repeat (first | (with_reducible assumption) | (with_reducible exact alloc_at _ _) | ((with_reducible apply alloc_at'); (simp; done)) | (with_reducible apply alloc_at_lt) | (with_reducible apply heap_drew_at) | (with_reducible apply heap_drewN_at) | (with_reducible apply heap_setCell_same) | ((with_reducible apply heap_set_ne); (first | omega | (dsimp only; omega) | (simp; done) | (simp; omega))) | (with_reducible apply setRow_at) | ((with_reducible apply setRow_ne); (first | omega | (dsimp only; omega) | (simp; done) | (simp; omega))))))
      have B4 : Below w.heap.size w w4 := Below.trans (by repeat (first | with_reducible assumption | with_reducible exact Below.refl _ _ | with_reducible refine Below.drew ?_ | with_reducible refine below_drewN ?_ _ | with_reducible refine below_alloc ?_ _ | with_reducible refine Below.alloc ?_ (by first | omega | (simp; done) | (simp; omega)) _ | with_reducible refine Below.setCell ?_ (by first | omega | (simp; done) | (simp; omega)) _ | with_reducible refine below_setRow ?_ (by first | omega | (simp; done) | (simp; omega)) _)) (hb4.mono (by first | omega | (simp; done) | (simp; omega)))
      clear hb4 N_3 P_3 Q_3 R_3 S_3
      clear Nc0 Nc1 Nc2 Ncf
      clear Pc0 Pcf
      clear Qc0 Qcf
      clear Rc0 Rc1 Rcf
      clear Sc0 Sc1 Scf
      have Nc0 : w4.cell? ⟨w.heap.size, 0, none⟩ = some (.int .u64 a) := (blk_cell N_4 0).trans rfl
      have Nc1 : w4.cell? ⟨w.heap.size, 1, none⟩ = some (.int .u64 b) := (blk_cell N_4 1).trans rfl
      have Nc2 : w4.cell? ⟨w.heap.size, 2, none⟩ = some (.int .u64 c) := (blk_cell N_4 2).trans rfl
      have Ncf := blk_free N_4
      have Pc0 : w4.cell? ⟨w.heap.size + 1, 0, none⟩ = some (.int .u64 p) := (blk_cell P_4 0).trans rfl
      have Pcf := blk_free P_4
      have Qc0 : w4.cell? ⟨w.heap.size + 1 + 1, 0, none⟩ = some (.int .u64 q) := (blk_cell Q_4 0).trans rfl
      have Qcf := blk_free Q_4
      have Rc0 : w4.cell? ⟨w.heap.size + 1 + 1 + 1, 0, none⟩ = some (.int .u64 0) := (blk_cell R_4 0).trans rfl
      have Rc1 : w4.cell? ⟨w.heap.size + 1 + 1 + 1, 1, none⟩ = some (.int .u64 0) := (blk_cell R_4 1).trans rfl
      have Rcf := blk_free R_4
      have Sc0 : w4.cell? ⟨w.heap.size + 1 + 1 + 1 + 1, 0, none⟩ = some (.pointer (some ⟨w.heap.size + 1, 0, none⟩)) := (blk_cell S_4 0).trans rfl
      have Sc1 : w4.cell? ⟨w.heap.size + 1 + 1 + 1 + 1, 1, none⟩ = some (.pointer (some ⟨w.heap.size + 1 + 1, 0, none⟩)) := (blk_cell S_4 1).trans rfl
      have Scf := blk_free S_4
      have Nl4 : w.heap.size < w4.heap.size := by omega
      have Pl4 : w.heap.size + 1 < w4.heap.size := by omega
      have Ql4 : w.heap.size + 1 + 1 < w4.heap.size := by omega
      have Rl4 : w.heap.size + 1 + 1 + 1 < w4.heap.size := by omega
      have Sl4 : w.heap.size + 1 + 1 + 1 + 1 < w4.heap.size := by omega
      have hq_p1 := E1.out
      go_wp2_with fail
      clear hq_p1
      rw [rounds_succ]
      go_upto_region 3 with fail
      go_cut [9] (fun s wx => s = .pointer (some ⟨w.heap.size + 1 + 1, 0, none⟩) ∧ Below w.heap.size w wx ∧ wx.heap[w.heap.size]? = some (.cells #[.int .u64 a1, .int .u64 b1, .int .u64 c1] 63 (0, 0)) ∧ wx.heap[w.heap.size + 1]? = some (.cells #[.int .u64 p1] 22 (0, 0)) ∧ wx.heap[w.heap.size + 1 + 1]? = some (.cells #[.int .u64 q] 22 (0, 0)) ∧ wx.heap[w.heap.size + 1 + 1 + 1]? = some (.cells #[.int .u64 0, .int .u64 0] 24 (0, 0)) ∧ wx.heap[w.heap.size + 1 + 1 + 1 + 1]? = some (.cells #[.pointer (some ⟨w.heap.size + 1, 0, none⟩), .pointer (some ⟨w.heap.size + 1 + 1, 0, none⟩)] 72 (0, 0)))
      case first =>
        go_wp2
        go_meet
        exact ⟨rfl, (by repeat (first | with_reducible assumption | with_reducible exact Below.refl _ _ | with_reducible refine Below.drew ?_ | with_reducible refine below_drewN ?_ _ | with_reducible refine below_alloc ?_ _ | with_reducible refine Below.alloc ?_ (by first | omega | (simp; done) | (simp; omega)) _ | with_reducible refine Below.setCell ?_ (by first | omega | (simp; done) | (simp; omega)) _ | with_reducible refine below_setRow ?_ (by first | omega | (simp; done) | (simp; omega)) _)), (at_of (by apply Exists.intro; refine ⟨?_, ?_⟩; (focus ((repeat (first | (with_reducible assumption) | (with_reducible exact alloc_at _ _) | ((with_reducible apply alloc_at'); (simp; done)) | (with_reducible apply alloc_at_lt) | (with_reducible apply heap_drew_at) | (with_reducible apply heap_drewN_at) | (with_reducible apply heap_setCell_same) | ((with_reducible apply heap_set_ne); (first | omega | (dsimp only; omega) | (simp; done) | (simp; omega))) | (with_reducible apply setRow_at) | ((with_reducible apply setRow_ne); (first | omega | (dsimp only; omega) | (simp; done) | (simp; omega))))))); simp)), (at_of (by apply Exists.intro; refine ⟨?_, ?_⟩; (focus ((repeat (first | (with_reducible assumption) | (with_reducible exact alloc_at _ _) | ((with_reducible apply alloc_at'); (simp; done)) | (with_reducible apply alloc_at_lt) | (with_reducible apply heap_drew_at) | (with_reducible apply heap_drewN_at) | (with_reducible apply heap_setCell_same) | ((with_reducible apply heap_set_ne); (first | omega | (dsimp only; omega) | (simp; done) | (simp; omega))) | (with_reducible apply setRow_at) | ((with_reducible apply setRow_ne); (first | omega | (dsimp only; omega) | (simp; done) | (simp; omega))))))); simp)), (at_of (by apply Exists.intro; refine ⟨?_, ?_⟩; (focus ((repeat (first | (with_reducible assumption) | (with_reducible exact alloc_at _ _) | ((with_reducible apply alloc_at'); (simp; done)) | (with_reducible apply alloc_at_lt) | (with_reducible apply heap_drew_at) | (with_reducible apply heap_drewN_at) | (with_reducible apply heap_setCell_same) | ((with_reducible apply heap_set_ne); (first | omega | (dsimp only; omega) | (simp; done) | (simp; omega))) | (with_reducible apply setRow_at) | ((with_reducible apply setRow_ne); (first | omega | (dsimp only; omega) | (simp; done) | (simp; omega))))))); simp)), (at_of (by apply Exists.intro; refine ⟨?_, ?_⟩; (focus ((repeat (first | (with_reducible assumption) | (with_reducible exact alloc_at _ _) | ((with_reducible apply alloc_at'); (simp; done)) | (with_reducible apply alloc_at_lt) | (with_reducible apply heap_drew_at) | (with_reducible apply heap_drewN_at) | (with_reducible apply heap_setCell_same) | ((with_reducible apply heap_set_ne); (first | omega | (dsimp only; omega) | (simp; done) | (simp; omega))) | (with_reducible apply setRow_at) | ((with_reducible apply setRow_ne); (first | omega | (dsimp only; omega) | (simp; done) | (simp; omega))))))); simp)), (at_of (by apply Exists.intro; refine ⟨?_, ?_⟩; (focus ((repeat (first | (with_reducible assumption) | (with_reducible exact alloc_at _ _) | ((with_reducible apply alloc_at'); (simp; done)) | (with_reducible apply alloc_at_lt) | (with_reducible apply heap_drew_at) | (with_reducible apply heap_drewN_at) | (with_reducible apply heap_setCell_same) | ((with_reducible apply heap_set_ne); (first | omega | (dsimp only; omega) | (simp; done) | (simp; omega))) | (with_reducible apply setRow_at) | ((with_reducible apply setRow_ne); (first | omega | (dsimp only; omega) | (simp; done) | (simp; omega))))))); simp))⟩
      case rest =>
        obtain ⟨rfl, B5, N_5, P_5, Q_5, R_5, S_5⟩ := hcut
        obtain ⟨w5, rfl⟩ : ∃ x : World, x = wc := ⟨_, rfl⟩
        clear N_4
        clear P_4
        clear Q_4
        clear R_4
        clear S_4
        clear Nc0 Nc1 Nc2 Ncf
        clear Pc0 Pcf
        clear Qc0 Qcf
        clear Rc0 Rc1 Rcf
        clear Sc0 Sc1 Scf
        have Nc0 : w5.cell? ⟨w.heap.size, 0, none⟩ = some (.int .u64 a1) := (blk_cell N_5 0).trans rfl
        have Nc1 : w5.cell? ⟨w.heap.size, 1, none⟩ = some (.int .u64 b1) := (blk_cell N_5 1).trans rfl
        have Nc2 : w5.cell? ⟨w.heap.size, 2, none⟩ = some (.int .u64 c1) := (blk_cell N_5 2).trans rfl
        have Ncf := blk_free N_5
        have Pc0 : w5.cell? ⟨w.heap.size + 1, 0, none⟩ = some (.int .u64 p1) := (blk_cell P_5 0).trans rfl
        have Pcf := blk_free P_5
        have Qc0 : w5.cell? ⟨w.heap.size + 1 + 1, 0, none⟩ = some (.int .u64 q) := (blk_cell Q_5 0).trans rfl
        have Qcf := blk_free Q_5
        have Rc0 : w5.cell? ⟨w.heap.size + 1 + 1 + 1, 0, none⟩ = some (.int .u64 0) := (blk_cell R_5 0).trans rfl
        have Rc1 : w5.cell? ⟨w.heap.size + 1 + 1 + 1, 1, none⟩ = some (.int .u64 0) := (blk_cell R_5 1).trans rfl
        have Rcf := blk_free R_5
        have Sc0 : w5.cell? ⟨w.heap.size + 1 + 1 + 1 + 1, 0, none⟩ = some (.pointer (some ⟨w.heap.size + 1, 0, none⟩)) := (blk_cell S_5 0).trans rfl
        have Sc1 : w5.cell? ⟨w.heap.size + 1 + 1 + 1 + 1, 1, none⟩ = some (.pointer (some ⟨w.heap.size + 1 + 1, 0, none⟩)) := (blk_cell S_5 1).trans rfl
        have Scf := blk_free S_5
        have Nl5 : w.heap.size < w5.heap.size := lt_of_at N_5
        have Pl5 : w.heap.size + 1 < w5.heap.size := lt_of_at P_5
        have Ql5 : w.heap.size + 1 + 1 < w5.heap.size := lt_of_at Q_5
        have Rl5 : w.heap.size + 1 + 1 + 1 < w5.heap.size := lt_of_at R_5
        have Sl5 : w.heap.size + 1 + 1 + 1 + 1 < w5.heap.size := lt_of_at S_5
        go_upto_region 4 with fail
        go_cut [11] (fun s0_ wx => s0_ = .int .u64 r2 ∧ Below w5.heap.size w5 wx)
        case first =>
          go_region_held3 (fun w' => Below w5.heap.size w5 w' ∧ (∀ b o, b < w5.heap.size → w'.cell? ⟨b, o, none⟩ = w5.cell? ⟨b, o, none⟩) ∧ ∀ b o, b < w5.heap.size → w'.frozen? ⟨b, o, none⟩ = w5.frozen? ⟨b, o, none⟩) (first | ((try go_split_ands); (try dsimp only); refine same_of ?_; (repeat (first | with_reducible assumption | with_reducible exact Below.refl _ _ | with_reducible refine Below.drew ?_ | with_reducible refine below_drewN ?_ _ | with_reducible refine below_alloc ?_ _ | with_reducible refine Below.alloc ?_ (by first | omega | (simp; done) | (simp; omega)) _ | with_reducible refine Below.setCell ?_ (by first | omega | (simp; done) | (simp; omega)) _ | with_reducible refine below_setRow ?_ (by first | omega | (simp; done) | (simp; omega)) _)); done) | ((try go_split_ands); (try dsimp only); refine same_of ?_; (repeat (first | with_reducible refine below_call ?_ hb99 | with_reducible assumption | with_reducible exact Below.refl _ _ | with_reducible refine Below.drew ?_ | with_reducible refine below_alloc ?_ _)); done)) (first | (go_at_call 44; refine (D3.out _).mono ?_; rintro e w99 ⟨rfl, hb99⟩; obtain ⟨hc99, hf99⟩ := bcell hb99))
          all_goals
            obtain ⟨hb98, -, -⟩ : Below w5.heap.size w5 _ ∧ _ ∧ _ := by assumption
            go_wp2_with fail
            go_meet
            exact ⟨by first | rfl | (simp; done) | (simp; omega), hb98⟩
        case rest =>
          obtain ⟨rfl, hb6⟩ := hcut
          obtain ⟨w6, rfl⟩ : ∃ x : World, x = wc := ⟨_, rfl⟩
          have hs6 := hb6.size
          try simp only [World.size_alloc, World.size_setCell] at hs6
          have N_6 : w6.heap[w.heap.size]? = some (.cells #[.int .u64 a1, .int .u64 b1, .int .u64 c1] 63 (0, 0)) := below_at hb6 (by first | omega | (simp; done) | (simp; omega)) (by (repeat (first | (with_reducible assumption) | (with_reducible exact alloc_at _ _) | ((with_reducible apply alloc_at'); (simp; done)) | (with_reducible apply alloc_at_lt) | (with_reducible apply heap_drew_at) | (with_reducible apply heap_drewN_at) | (with_reducible apply heap_setCell_same) | ((with_reducible apply heap_set_ne); (first | omega | (dsimp only; omega) | (simp; done) | (simp; omega))) | (with_reducible apply setRow_at) | ((with_reducible apply setRow_ne); (first | omega | (dsimp only; omega) | (simp; done) | (simp; omega))))))
          have P_6 : w6.heap[w.heap.size + 1]? = some (.cells #[.int .u64 p1] 22 (0, 0)) := below_at hb6 (by first | omega | (simp; done) | (simp; omega)) (by (repeat (first | (with_reducible assumption) | (with_reducible exact alloc_at _ _) | ((with_reducible apply alloc_at'); (simp; done)) | (with_reducible apply alloc_at_lt) | (with_reducible apply heap_drew_at) | (with_reducible apply heap_drewN_at) | (with_reducible apply heap_setCell_same) | ((with_reducible apply heap_set_ne); (first | omega | (dsimp only; omega) | (simp; done) | (simp; omega))) | (with_reducible apply setRow_at) | ((with_reducible apply setRow_ne); (first | omega | (dsimp only; omega) | (simp; done) | (simp; omega))))))
          have Q_6 : w6.heap[w.heap.size + 1 + 1]? = some (.cells #[.int .u64 q] 22 (0, 0)) := below_at hb6 (by first | omega | (simp; done) | (simp; omega)) (by (repeat (first | (with_reducible assumption) | (with_reducible exact alloc_at _ _) | ((with_reducible apply alloc_at'); (simp; done)) | (with_reducible apply alloc_at_lt) | (with_reducible apply heap_drew_at) | (with_reducible apply heap_drewN_at) | (with_reducible apply heap_setCell_same) | ((with_reducible apply heap_set_ne); (first | omega | (dsimp only; omega) | (simp; done) | (simp; omega))) | (with_reducible apply setRow_at) | ((with_reducible apply setRow_ne); (first | omega | (dsimp only; omega) | (simp; done) | (simp; omega))))))
          have R_6 : w6.heap[w.heap.size + 1 + 1 + 1]? = some (.cells #[.int .u64 0, .int .u64 0] 24 (0, 0)) := below_at hb6 (by first | omega | (simp; done) | (simp; omega)) (by (repeat (first | (with_reducible assumption) | (with_reducible exact alloc_at _ _) | ((with_reducible apply alloc_at'); (simp; done)) | (with_reducible apply alloc_at_lt) | (with_reducible apply heap_drew_at) | (with_reducible apply heap_drewN_at) | (with_reducible apply heap_setCell_same) | ((with_reducible apply heap_set_ne); (first | omega | (dsimp only; omega) | (simp; done) | (simp; omega))) | (with_reducible apply setRow_at) | ((with_reducible apply setRow_ne); (first | omega | (dsimp only; omega) | (simp; done) | (simp; omega))))))
          have S_6 : w6.heap[w.heap.size + 1 + 1 + 1 + 1]? = some (.cells #[.pointer (some ⟨w.heap.size + 1, 0, none⟩), .pointer (some ⟨w.heap.size + 1 + 1, 0, none⟩)] 72 (0, 0)) := below_at hb6 (by first | omega | (simp; done) | (simp; omega)) (by (repeat (first | (with_reducible assumption) | (with_reducible exact alloc_at _ _) | ((with_reducible apply alloc_at'); (simp; done)) | (with_reducible apply alloc_at_lt) | (with_reducible apply heap_drew_at) | (with_reducible apply heap_drewN_at) | (with_reducible apply heap_setCell_same) | ((with_reducible apply heap_set_ne); (first | omega | (dsimp only; omega) | (simp; done) | (simp; omega))) | (with_reducible apply setRow_at) | ((with_reducible apply setRow_ne); (first | omega | (dsimp only; omega) | (simp; done) | (simp; omega))))))
          have B6 : Below w.heap.size w w6 := Below.trans (by repeat (first | with_reducible assumption | with_reducible exact Below.refl _ _ | with_reducible refine Below.drew ?_ | with_reducible refine below_drewN ?_ _ | with_reducible refine below_alloc ?_ _ | with_reducible refine Below.alloc ?_ (by first | omega | (simp; done) | (simp; omega)) _ | with_reducible refine Below.setCell ?_ (by first | omega | (simp; done) | (simp; omega)) _ | with_reducible refine below_setRow ?_ (by first | omega | (simp; done) | (simp; omega)) _)) (hb6.mono (by first | omega | (simp; done) | (simp; omega)))
          clear hb6 N_5 P_5 Q_5 R_5 S_5
          clear Nc0 Nc1 Nc2 Ncf
          clear Pc0 Pcf
          clear Qc0 Qcf
          clear Rc0 Rc1 Rcf
          clear Sc0 Sc1 Scf
          have Nc0 : w6.cell? ⟨w.heap.size, 0, none⟩ = some (.int .u64 a1) := (blk_cell N_6 0).trans rfl
          have Nc1 : w6.cell? ⟨w.heap.size, 1, none⟩ = some (.int .u64 b1) := (blk_cell N_6 1).trans rfl
          have Nc2 : w6.cell? ⟨w.heap.size, 2, none⟩ = some (.int .u64 c1) := (blk_cell N_6 2).trans rfl
          have Ncf := blk_free N_6
          have Pc0 : w6.cell? ⟨w.heap.size + 1, 0, none⟩ = some (.int .u64 p1) := (blk_cell P_6 0).trans rfl
          have Pcf := blk_free P_6
          have Qc0 : w6.cell? ⟨w.heap.size + 1 + 1, 0, none⟩ = some (.int .u64 q) := (blk_cell Q_6 0).trans rfl
          have Qcf := blk_free Q_6
          have Rc0 : w6.cell? ⟨w.heap.size + 1 + 1 + 1, 0, none⟩ = some (.int .u64 0) := (blk_cell R_6 0).trans rfl
          have Rc1 : w6.cell? ⟨w.heap.size + 1 + 1 + 1, 1, none⟩ = some (.int .u64 0) := (blk_cell R_6 1).trans rfl
          have Rcf := blk_free R_6
          have Sc0 : w6.cell? ⟨w.heap.size + 1 + 1 + 1 + 1, 0, none⟩ = some (.pointer (some ⟨w.heap.size + 1, 0, none⟩)) := (blk_cell S_6 0).trans rfl
          have Sc1 : w6.cell? ⟨w.heap.size + 1 + 1 + 1 + 1, 1, none⟩ = some (.pointer (some ⟨w.heap.size + 1 + 1, 0, none⟩)) := (blk_cell S_6 1).trans rfl
          have Scf := blk_free S_6
          have Nl6 : w.heap.size < w6.heap.size := by omega
          have Pl6 : w.heap.size + 1 < w6.heap.size := by omega
          have Ql6 : w.heap.size + 1 + 1 < w6.heap.size := by omega
          have Rl6 : w.heap.size + 1 + 1 + 1 < w6.heap.size := by omega
          have Sl6 : w.heap.size + 1 + 1 + 1 + 1 < w6.heap.size := by omega
          go_wp2_with fail
          refine (G2.out _).mono ?_
          rintro e w7 ⟨rfl, hb7⟩
          have hs7 := hb7.size
          try simp only [World.size_alloc, World.size_setCell] at hs7
          have N_7 : w7.heap[w.heap.size]? = some (.cells #[.int .u64 a1, .int .u64 b1, .int .u64 c1] 63 (0, 0)) := below_at hb7 (by first | omega | (simp; done) | (simp; omega)) (by (repeat (first | (with_reducible assumption) | (with_reducible exact alloc_at _ _) | ((with_reducible apply alloc_at'); (simp; done)) | (with_reducible apply alloc_at_lt) | (with_reducible apply heap_drew_at) | (with_reducible apply heap_drewN_at) | (with_reducible apply heap_setCell_same) | ((with_reducible apply heap_set_ne); (first | omega | (dsimp only; omega) | (simp; done) | (simp; omega))) | (with_reducible apply setRow_at) | ((with_reducible apply setRow_ne); (first | omega | (dsimp only; omega) | (simp; done) | (simp; omega))))))
          have P_7 : w7.heap[w.heap.size + 1]? = some (.cells #[.int .u64 p1] 22 (0, 0)) := below_at hb7 (by first | omega | (simp; done) | (simp; omega)) (by (repeat (first | (with_reducible assumption) | (with_reducible exact alloc_at _ _) | ((with_reducible apply alloc_at'); (simp; done)) | (with_reducible apply alloc_at_lt) | (with_reducible apply heap_drew_at) | (with_reducible apply heap_drewN_at) | (with_reducible apply heap_setCell_same) | ((with_reducible apply heap_set_ne); (first | omega | (dsimp only; omega) | (simp; done) | (simp; omega))) | (with_reducible apply setRow_at) | ((with_reducible apply setRow_ne); (first | omega | (dsimp only; omega) | (simp; done) | (simp; omega))))))
          have Q_7 : w7.heap[w.heap.size + 1 + 1]? = some (.cells #[.int .u64 q] 22 (0, 0)) := below_at hb7 (by first | omega | (simp; done) | (simp; omega)) (by (repeat (first | (with_reducible assumption) | (with_reducible exact alloc_at _ _) | ((with_reducible apply alloc_at'); (simp; done)) | (with_reducible apply alloc_at_lt) | (with_reducible apply heap_drew_at) | (with_reducible apply heap_drewN_at) | (with_reducible apply heap_setCell_same) | ((with_reducible apply heap_set_ne); (first | omega | (dsimp only; omega) | (simp; done) | (simp; omega))) | (with_reducible apply setRow_at) | ((with_reducible apply setRow_ne); (first | omega | (dsimp only; omega) | (simp; done) | (simp; omega))))))
          have R_7 : w7.heap[w.heap.size + 1 + 1 + 1]? = some (.cells #[.int .u64 0, .int .u64 0] 24 (0, 0)) := below_at hb7 (by first | omega | (simp; done) | (simp; omega)) (by (repeat (first | (with_reducible assumption) | (with_reducible exact alloc_at _ _) | ((with_reducible apply alloc_at'); (simp; done)) | (with_reducible apply alloc_at_lt) | (with_reducible apply heap_drew_at) | (with_reducible apply heap_drewN_at) | (with_reducible apply heap_setCell_same) | ((with_reducible apply heap_set_ne); (first | omega | (dsimp only; omega) | (simp; done) | (simp; omega))) | (with_reducible apply setRow_at) | ((with_reducible apply setRow_ne); (first | omega | (dsimp only; omega) | (simp; done) | (simp; omega))))))
          have S_7 : w7.heap[w.heap.size + 1 + 1 + 1 + 1]? = some (.cells #[.pointer (some ⟨w.heap.size + 1, 0, none⟩), .pointer (some ⟨w.heap.size + 1 + 1, 0, none⟩)] 72 (0, 0)) := below_at hb7 (by first | omega | (simp; done) | (simp; omega)) (by (repeat (first | (with_reducible assumption) | (with_reducible exact alloc_at _ _) | ((with_reducible apply alloc_at'); (simp; done)) | (with_reducible apply alloc_at_lt) | (with_reducible apply heap_drew_at) | (with_reducible apply heap_drewN_at) | (with_reducible apply heap_setCell_same) | ((with_reducible apply heap_set_ne); (first | omega | (dsimp only; omega) | (simp; done) | (simp; omega))) | (with_reducible apply setRow_at) | ((with_reducible apply setRow_ne); (first | omega | (dsimp only; omega) | (simp; done) | (simp; omega))))))
          have B7 : Below w.heap.size w w7 := Below.trans (by repeat (first | with_reducible assumption | with_reducible exact Below.refl _ _ | with_reducible refine Below.drew ?_ | with_reducible refine below_drewN ?_ _ | with_reducible refine below_alloc ?_ _ | with_reducible refine Below.alloc ?_ (by first | omega | (simp; done) | (simp; omega)) _ | with_reducible refine Below.setCell ?_ (by first | omega | (simp; done) | (simp; omega)) _ | with_reducible refine below_setRow ?_ (by first | omega | (simp; done) | (simp; omega)) _)) (hb7.mono (by first | omega | (simp; done) | (simp; omega)))
          clear hb7 N_6 P_6 Q_6 R_6 S_6
          clear Nc0 Nc1 Nc2 Ncf
          clear Pc0 Pcf
          clear Qc0 Qcf
          clear Rc0 Rc1 Rcf
          clear Sc0 Sc1 Scf
          have Nc0 : w7.cell? ⟨w.heap.size, 0, none⟩ = some (.int .u64 a1) := (blk_cell N_7 0).trans rfl
          have Nc1 : w7.cell? ⟨w.heap.size, 1, none⟩ = some (.int .u64 b1) := (blk_cell N_7 1).trans rfl
          have Nc2 : w7.cell? ⟨w.heap.size, 2, none⟩ = some (.int .u64 c1) := (blk_cell N_7 2).trans rfl
          have Ncf := blk_free N_7
          have Pc0 : w7.cell? ⟨w.heap.size + 1, 0, none⟩ = some (.int .u64 p1) := (blk_cell P_7 0).trans rfl
          have Pcf := blk_free P_7
          have Qc0 : w7.cell? ⟨w.heap.size + 1 + 1, 0, none⟩ = some (.int .u64 q) := (blk_cell Q_7 0).trans rfl
          have Qcf := blk_free Q_7
          have Rc0 : w7.cell? ⟨w.heap.size + 1 + 1 + 1, 0, none⟩ = some (.int .u64 0) := (blk_cell R_7 0).trans rfl
          have Rc1 : w7.cell? ⟨w.heap.size + 1 + 1 + 1, 1, none⟩ = some (.int .u64 0) := (blk_cell R_7 1).trans rfl
          have Rcf := blk_free R_7
          have Sc0 : w7.cell? ⟨w.heap.size + 1 + 1 + 1 + 1, 0, none⟩ = some (.pointer (some ⟨w.heap.size + 1, 0, none⟩)) := (blk_cell S_7 0).trans rfl
          have Sc1 : w7.cell? ⟨w.heap.size + 1 + 1 + 1 + 1, 1, none⟩ = some (.pointer (some ⟨w.heap.size + 1 + 1, 0, none⟩)) := (blk_cell S_7 1).trans rfl
          have Scf := blk_free S_7
          have Nl7 : w.heap.size < w7.heap.size := by omega
          have Pl7 : w.heap.size + 1 < w7.heap.size := by omega
          have Ql7 : w.heap.size + 1 + 1 < w7.heap.size := by omega
          have Rl7 : w.heap.size + 1 + 1 + 1 < w7.heap.size := by omega
          have Sl7 : w.heap.size + 1 + 1 + 1 + 1 < w7.heap.size := by omega
          go_wp2_with fail
          refine (D4.out _).mono ?_
          rintro e w8 ⟨rfl, hb8⟩
          have hs8 := hb8.size
          try simp only [World.size_alloc, World.size_setCell] at hs8
          have N_8 : w8.heap[w.heap.size]? = some (.cells #[.int .u64 a1, .int .u64 b1, .int .u64 c1] 63 (0, 0)) := below_at hb8 (by first | omega | (simp; done) | (simp; omega)) (by (repeat (first | (with_reducible assumption) | (with_reducible exact alloc_at _ _) | ((with_reducible apply alloc_at'); (simp; done)) | (with_reducible apply alloc_at_lt) | (with_reducible apply heap_drew_at) | (with_reducible apply heap_drewN_at) | (with_reducible apply heap_setCell_same) | ((with_reducible apply heap_set_ne); (first | omega | (dsimp only; omega) | (simp; done) | (simp; omega))) | (with_reducible apply setRow_at) | ((with_reducible apply setRow_ne); (first | omega | (dsimp only; omega) | (simp; done) | (simp; omega))))))
          have P_8 : w8.heap[w.heap.size + 1]? = some (.cells #[.int .u64 p1] 22 (0, 0)) := below_at hb8 (by first | omega | (simp; done) | (simp; omega)) (by (repeat (first | (with_reducible assumption) | (with_reducible exact alloc_at _ _) | ((with_reducible apply alloc_at'); (simp; done)) | (with_reducible apply alloc_at_lt) | (with_reducible apply heap_drew_at) | (with_reducible apply heap_drewN_at) | (with_reducible apply heap_setCell_same) | ((with_reducible apply heap_set_ne); (first | omega | (dsimp only; omega) | (simp; done) | (simp; omega))) | (with_reducible apply setRow_at) | ((with_reducible apply setRow_ne); (first | omega | (dsimp only; omega) | (simp; done) | (simp; omega))))))
          have Q_8 : w8.heap[w.heap.size + 1 + 1]? = some (.cells #[.int .u64 q] 22 (0, 0)) := below_at hb8 (by first | omega | (simp; done) | (simp; omega)) (by (repeat (first | (with_reducible assumption) | (with_reducible exact alloc_at _ _) | ((with_reducible apply alloc_at'); (simp; done)) | (with_reducible apply alloc_at_lt) | (with_reducible apply heap_drew_at) | (with_reducible apply heap_drewN_at) | (with_reducible apply heap_setCell_same) | ((with_reducible apply heap_set_ne); (first | omega | (dsimp only; omega) | (simp; done) | (simp; omega))) | (with_reducible apply setRow_at) | ((with_reducible apply setRow_ne); (first | omega | (dsimp only; omega) | (simp; done) | (simp; omega))))))
          have R_8 : w8.heap[w.heap.size + 1 + 1 + 1]? = some (.cells #[.int .u64 0, .int .u64 0] 24 (0, 0)) := below_at hb8 (by first | omega | (simp; done) | (simp; omega)) (by (repeat (first | (with_reducible assumption) | (with_reducible exact alloc_at _ _) | ((with_reducible apply alloc_at'); (simp; done)) | (with_reducible apply alloc_at_lt) | (with_reducible apply heap_drew_at) | (with_reducible apply heap_drewN_at) | (with_reducible apply heap_setCell_same) | ((with_reducible apply heap_set_ne); (first | omega | (dsimp only; omega) | (simp; done) | (simp; omega))) | (with_reducible apply setRow_at) | ((with_reducible apply setRow_ne); (first | omega | (dsimp only; omega) | (simp; done) | (simp; omega))))))
          have S_8 : w8.heap[w.heap.size + 1 + 1 + 1 + 1]? = some (.cells #[.pointer (some ⟨w.heap.size + 1, 0, none⟩), .pointer (some ⟨w.heap.size + 1 + 1, 0, none⟩)] 72 (0, 0)) := below_at hb8 (by first | omega | (simp; done) | (simp; omega)) (by (repeat (first | (with_reducible assumption) | (with_reducible exact alloc_at _ _) | ((with_reducible apply alloc_at'); (simp; done)) | (with_reducible apply alloc_at_lt) | (with_reducible apply heap_drew_at) | (with_reducible apply heap_drewN_at) | (with_reducible apply heap_setCell_same) | ((with_reducible apply heap_set_ne); (first | omega | (dsimp only; omega) | (simp; done) | (simp; omega))) | (with_reducible apply setRow_at) | ((with_reducible apply setRow_ne); (first | omega | (dsimp only; omega) | (simp; done) | (simp; omega))))))
          have B8 : Below w.heap.size w w8 := Below.trans (by repeat (first | with_reducible assumption | with_reducible exact Below.refl _ _ | with_reducible refine Below.drew ?_ | with_reducible refine below_drewN ?_ _ | with_reducible refine below_alloc ?_ _ | with_reducible refine Below.alloc ?_ (by first | omega | (simp; done) | (simp; omega)) _ | with_reducible refine Below.setCell ?_ (by first | omega | (simp; done) | (simp; omega)) _ | with_reducible refine below_setRow ?_ (by first | omega | (simp; done) | (simp; omega)) _)) (hb8.mono (by first | omega | (simp; done) | (simp; omega)))
          clear hb8 N_7 P_7 Q_7 R_7 S_7
          clear Nc0 Nc1 Nc2 Ncf
          clear Pc0 Pcf
          clear Qc0 Qcf
          clear Rc0 Rc1 Rcf
          clear Sc0 Sc1 Scf
          have Nc0 : w8.cell? ⟨w.heap.size, 0, none⟩ = some (.int .u64 a1) := (blk_cell N_8 0).trans rfl
          have Nc1 : w8.cell? ⟨w.heap.size, 1, none⟩ = some (.int .u64 b1) := (blk_cell N_8 1).trans rfl
          have Nc2 : w8.cell? ⟨w.heap.size, 2, none⟩ = some (.int .u64 c1) := (blk_cell N_8 2).trans rfl
          have Ncf := blk_free N_8
          have Pc0 : w8.cell? ⟨w.heap.size + 1, 0, none⟩ = some (.int .u64 p1) := (blk_cell P_8 0).trans rfl
          have Pcf := blk_free P_8
          have Qc0 : w8.cell? ⟨w.heap.size + 1 + 1, 0, none⟩ = some (.int .u64 q) := (blk_cell Q_8 0).trans rfl
          have Qcf := blk_free Q_8
          have Rc0 : w8.cell? ⟨w.heap.size + 1 + 1 + 1, 0, none⟩ = some (.int .u64 0) := (blk_cell R_8 0).trans rfl
          have Rc1 : w8.cell? ⟨w.heap.size + 1 + 1 + 1, 1, none⟩ = some (.int .u64 0) := (blk_cell R_8 1).trans rfl
          have Rcf := blk_free R_8
          have Sc0 : w8.cell? ⟨w.heap.size + 1 + 1 + 1 + 1, 0, none⟩ = some (.pointer (some ⟨w.heap.size + 1, 0, none⟩)) := (blk_cell S_8 0).trans rfl
          have Sc1 : w8.cell? ⟨w.heap.size + 1 + 1 + 1 + 1, 1, none⟩ = some (.pointer (some ⟨w.heap.size + 1 + 1, 0, none⟩)) := (blk_cell S_8 1).trans rfl
          have Scf := blk_free S_8
          have Nl8 : w.heap.size < w8.heap.size := by omega
          have Pl8 : w.heap.size + 1 < w8.heap.size := by omega
          have Ql8 : w.heap.size + 1 + 1 < w8.heap.size := by omega
          have Rl8 : w.heap.size + 1 + 1 + 1 < w8.heap.size := by omega
          have Sl8 : w.heap.size + 1 + 1 + 1 + 1 < w8.heap.size := by omega
          have hq_q1 := E2.out
          go_wp2_with fail
          clear hq_q1
          rw [rounds_succ]
          go_wp2_with fail
          refine (HM.out _).mono ?_
          rintro e wz ⟨rfl, rfl⟩
          go_wp2
          refine ret_row2 rfl (w.heap.size + 1 + 1 + 1) #[.int .u64 0, .int .u64 0] 24 _ rfl Try.underlying24 rfl infoR rfl (by apply Exists.intro; refine ⟨?_, ?_⟩; (focus ((repeat (first | (with_reducible assumption) | (with_reducible exact alloc_at _ _) | ((with_reducible apply alloc_at'); (simp; done)) | (with_reducible apply alloc_at_lt) | (with_reducible apply heap_drew_at) | (with_reducible apply heap_drewN_at) | (with_reducible apply heap_setCell_same) | ((with_reducible apply heap_set_ne); (first | omega | (dsimp only; omega) | (simp; done) | (simp; omega))) | (with_reducible apply setRow_at) | ((with_reducible apply setRow_ne); (first | omega | (dsimp only; omega) | (simp; done) | (simp; omega))))))); simp) ⟨rfl, (by repeat (first | with_reducible assumption | with_reducible exact Below.refl _ _ | with_reducible refine Below.drew ?_ | with_reducible refine below_drewN ?_ _ | with_reducible refine below_alloc ?_ _ | with_reducible refine Below.alloc ?_ (by first | omega | (simp; done) | (simp; omega)) _ | with_reducible refine Below.setCell ?_ (by first | omega | (simp; done) | (simp; omega)) _ | with_reducible refine below_setRow ?_ (by first | omega | (simp; done) | (simp; omega)) _))⟩
set_option maxRecDepth 100000 in
set_option maxHeartbeats 4000000 in
theorem over_d (a b c p q r1 g1 a1 b1 c1 v1 p1 r2 g2 a2 b2 c2 v2 q1 h l u0 u1 u2 u3 u4 u5 : Int) (w : World) (bp : 0 ≤ p) (bg1 : 1 ≤ g1) (bq : 0 ≤ q) (bg2 : 1 ≤ g2) (bp1 : 0 ≤ p1) (bp2 : p1 ≤ 18446744073709551615) (bq1 : 0 ≤ q1) (bq2 : q1 ≤ 18446744073709551615) (hs : (a2 != 0) = false) (ht : (b2 != 0) = false) (hh : (h != 0) = false) (hc : (c2 == 0) = true)
    (D1 : Hid (∀ W, Calls Try.prog 44 #[.agg #[.int .u64 a, .int .u64 b, .int .u64 c], .int .u64 p] W fun e w' => e = .returned (.tuple #[.agg #[.int .u64 u0, .int .u64 u1, .int .u64 u2], .int .u64 r1]) ∧ Below W.heap.size W w')) (G1 : Hid (∀ W, Calls Try.prog 32 #[.int .u64 p, .int .u64 r1] W fun e w' => e = .returned (.int .u64 g1) ∧ Below W.heap.size W w')) (D2 : Hid (∀ W, Calls Try.prog 44 #[.agg #[.int .u64 a, .int .u64 b, .int .u64 c], .int .u64 g1] W fun e w' => e = .returned (.tuple #[.agg #[.int .u64 a1, .int .u64 b1, .int .u64 c1], .int .u64 v1]) ∧ Below W.heap.size W w')) (E1 : Hid (IntKind.u64.wrap (p.tdiv g1) = p1))
    (D3 : Hid (∀ W, Calls Try.prog 44 #[.agg #[.int .u64 a1, .int .u64 b1, .int .u64 c1], .int .u64 q] W fun e w' => e = .returned (.tuple #[.agg #[.int .u64 u3, .int .u64 u4, .int .u64 u5], .int .u64 r2]) ∧ Below W.heap.size W w')) (G2 : Hid (∀ W, Calls Try.prog 32 #[.int .u64 q, .int .u64 r2] W fun e w' => e = .returned (.int .u64 g2) ∧ Below W.heap.size W w')) (D4 : Hid (∀ W, Calls Try.prog 44 #[.agg #[.int .u64 a1, .int .u64 b1, .int .u64 c1], .int .u64 g2] W fun e w' => e = .returned (.tuple #[.agg #[.int .u64 a2, .int .u64 b2, .int .u64 c2], .int .u64 v2]) ∧ Below W.heap.size W w')) (E2 : Hid (IntKind.u64.wrap (q.tdiv g2) = q1))
    (HM : Hid (∀ W, Calls Try.prog 22 #[.int .u64 p1, .int .u64 q1] W fun e w' => e = .returned (.tuple #[.int .u64 h, .int .u64 l]) ∧ W = w')) :
    Calls Try.prog 38 #[.agg #[.int .u64 a, .int .u64 b, .int .u64 c], .int .u64 p, .int .u64 q] w fun e w' => e = .returned (.tuple #[.agg #[.int .u64 0, .int .u64 1], .int .i64 0]) ∧ Below w.heap.size w w' := by
  go_enter Try.func38, Try.ntmps38
  go_wp2_with fail
  refine wp_loop_rounds 3 ?_
  rw [rounds_succ]
  go_upto_region 3 with fail
  go_cut [9] (fun s wx => s = .pointer (some ⟨w.heap.size + 1, 0, none⟩) ∧ Below w.heap.size w wx ∧ wx.heap[w.heap.size]? = some (.cells #[.int .u64 a, .int .u64 b, .int .u64 c] 63 (0, 0)) ∧ wx.heap[w.heap.size + 1]? = some (.cells #[.int .u64 p] 22 (0, 0)) ∧ wx.heap[w.heap.size + 1 + 1]? = some (.cells #[.int .u64 q] 22 (0, 0)) ∧ wx.heap[w.heap.size + 1 + 1 + 1]? = some (.cells #[.int .u64 0, .int .u64 0] 24 (0, 0)) ∧ wx.heap[w.heap.size + 1 + 1 + 1 + 1]? = some (.cells #[.pointer (some ⟨w.heap.size + 1, 0, none⟩), .pointer (some ⟨w.heap.size + 1 + 1, 0, none⟩)] 72 (0, 0)))
  case first =>
    go_wp2
    go_meet
    exact ⟨rfl, (by repeat (first | with_reducible assumption | with_reducible exact Below.refl _ _ | with_reducible refine Below.drew ?_ | with_reducible refine below_drewN ?_ _ | with_reducible refine below_alloc ?_ _ | with_reducible refine Below.alloc ?_ (by first | omega | (simp; done) | (simp; omega)) _ | with_reducible refine Below.setCell ?_ (by first | omega | (simp; done) | (simp; omega)) _ | with_reducible refine below_setRow ?_ (by first | omega | (simp; done) | (simp; omega)) _)), (at_of (by apply Exists.intro; refine ⟨?_, ?_⟩; (focus ((repeat (first | (with_reducible assumption) | (with_reducible exact alloc_at _ _) | ((with_reducible apply alloc_at'); (simp; done)) | (with_reducible apply alloc_at_lt) | (with_reducible apply heap_drew_at) | (with_reducible apply heap_drewN_at) | (with_reducible apply heap_setCell_same) | ((with_reducible apply heap_set_ne); (first | omega | (dsimp only; omega) | (simp; done) | (simp; omega))) | (with_reducible apply setRow_at) | ((with_reducible apply setRow_ne); (first | omega | (dsimp only; omega) | (simp; done) | (simp; omega))))))); simp)), (at_of (by apply Exists.intro; refine ⟨?_, ?_⟩; (focus ((repeat (first | (with_reducible assumption) | (with_reducible exact alloc_at _ _) | ((with_reducible apply alloc_at'); (simp; done)) | (with_reducible apply alloc_at_lt) | (with_reducible apply heap_drew_at) | (with_reducible apply heap_drewN_at) | (with_reducible apply heap_setCell_same) | ((with_reducible apply heap_set_ne); (first | omega | (dsimp only; omega) | (simp; done) | (simp; omega))) | (with_reducible apply setRow_at) | ((with_reducible apply setRow_ne); (first | omega | (dsimp only; omega) | (simp; done) | (simp; omega))))))); simp)), (at_of (by apply Exists.intro; refine ⟨?_, ?_⟩; (focus ((repeat (first | (with_reducible assumption) | (with_reducible exact alloc_at _ _) | ((with_reducible apply alloc_at'); (simp; done)) | (with_reducible apply alloc_at_lt) | (with_reducible apply heap_drew_at) | (with_reducible apply heap_drewN_at) | (with_reducible apply heap_setCell_same) | ((with_reducible apply heap_set_ne); (first | omega | (dsimp only; omega) | (simp; done) | (simp; omega))) | (with_reducible apply setRow_at) | ((with_reducible apply setRow_ne); (first | omega | (dsimp only; omega) | (simp; done) | (simp; omega))))))); simp)), (at_of (by apply Exists.intro; refine ⟨?_, ?_⟩; (focus ((repeat (first | (with_reducible assumption) | (with_reducible exact alloc_at _ _) | ((with_reducible apply alloc_at'); (simp; done)) | (with_reducible apply alloc_at_lt) | (with_reducible apply heap_drew_at) | (with_reducible apply heap_drewN_at) | (with_reducible apply heap_setCell_same) | ((with_reducible apply heap_set_ne); (first | omega | (dsimp only; omega) | (simp; done) | (simp; omega))) | (with_reducible apply setRow_at) | ((with_reducible apply setRow_ne); (first | omega | (dsimp only; omega) | (simp; done) | (simp; omega))))))); simp)), (at_of (by apply Exists.intro; refine ⟨?_, ?_⟩; (focus ((repeat (first | (with_reducible assumption) | (with_reducible exact alloc_at _ _) | ((with_reducible apply alloc_at'); (simp; done)) | (with_reducible apply alloc_at_lt) | (with_reducible apply heap_drew_at) | (with_reducible apply heap_drewN_at) | (with_reducible apply heap_setCell_same) | ((with_reducible apply heap_set_ne); (first | omega | (dsimp only; omega) | (simp; done) | (simp; omega))) | (with_reducible apply setRow_at) | ((with_reducible apply setRow_ne); (first | omega | (dsimp only; omega) | (simp; done) | (simp; omega))))))); simp))⟩
  case rest =>
    obtain ⟨rfl, B1, N_1, P_1, Q_1, R_1, S_1⟩ := hcut
    obtain ⟨w1, rfl⟩ : ∃ x : World, x = wc := ⟨_, rfl⟩
    have Nc0 : w1.cell? ⟨w.heap.size, 0, none⟩ = some (.int .u64 a) := (blk_cell N_1 0).trans rfl
    have Nc1 : w1.cell? ⟨w.heap.size, 1, none⟩ = some (.int .u64 b) := (blk_cell N_1 1).trans rfl
    have Nc2 : w1.cell? ⟨w.heap.size, 2, none⟩ = some (.int .u64 c) := (blk_cell N_1 2).trans rfl
    have Ncf := blk_free N_1
    have Pc0 : w1.cell? ⟨w.heap.size + 1, 0, none⟩ = some (.int .u64 p) := (blk_cell P_1 0).trans rfl
    have Pcf := blk_free P_1
    have Qc0 : w1.cell? ⟨w.heap.size + 1 + 1, 0, none⟩ = some (.int .u64 q) := (blk_cell Q_1 0).trans rfl
    have Qcf := blk_free Q_1
    have Rc0 : w1.cell? ⟨w.heap.size + 1 + 1 + 1, 0, none⟩ = some (.int .u64 0) := (blk_cell R_1 0).trans rfl
    have Rc1 : w1.cell? ⟨w.heap.size + 1 + 1 + 1, 1, none⟩ = some (.int .u64 0) := (blk_cell R_1 1).trans rfl
    have Rcf := blk_free R_1
    have Sc0 : w1.cell? ⟨w.heap.size + 1 + 1 + 1 + 1, 0, none⟩ = some (.pointer (some ⟨w.heap.size + 1, 0, none⟩)) := (blk_cell S_1 0).trans rfl
    have Sc1 : w1.cell? ⟨w.heap.size + 1 + 1 + 1 + 1, 1, none⟩ = some (.pointer (some ⟨w.heap.size + 1 + 1, 0, none⟩)) := (blk_cell S_1 1).trans rfl
    have Scf := blk_free S_1
    have Nl1 : w.heap.size < w1.heap.size := lt_of_at N_1
    have Pl1 : w.heap.size + 1 < w1.heap.size := lt_of_at P_1
    have Ql1 : w.heap.size + 1 + 1 < w1.heap.size := lt_of_at Q_1
    have Rl1 : w.heap.size + 1 + 1 + 1 < w1.heap.size := lt_of_at R_1
    have Sl1 : w.heap.size + 1 + 1 + 1 + 1 < w1.heap.size := lt_of_at S_1
    go_upto_region 4 with fail
    go_cut [11] (fun s0_ wx => s0_ = .int .u64 r1 ∧ Below w1.heap.size w1 wx)
    case first =>
      go_region_held3 (fun w' => Below w1.heap.size w1 w' ∧ (∀ b o, b < w1.heap.size → w'.cell? ⟨b, o, none⟩ = w1.cell? ⟨b, o, none⟩) ∧ ∀ b o, b < w1.heap.size → w'.frozen? ⟨b, o, none⟩ = w1.frozen? ⟨b, o, none⟩) (first | ((try go_split_ands); (try dsimp only); refine same_of ?_; (repeat (first | with_reducible assumption | with_reducible exact Below.refl _ _ | with_reducible refine Below.drew ?_ | with_reducible refine below_drewN ?_ _ | with_reducible refine below_alloc ?_ _ | with_reducible refine Below.alloc ?_ (by first | omega | (simp; done) | (simp; omega)) _ | with_reducible refine Below.setCell ?_ (by first | omega | (simp; done) | (simp; omega)) _ | with_reducible refine below_setRow ?_ (by first | omega | (simp; done) | (simp; omega)) _)); done) | ((try go_split_ands); (try dsimp only); refine same_of ?_; (repeat (first | with_reducible refine below_call ?_ hb99 | with_reducible assumption | with_reducible exact Below.refl _ _ | with_reducible refine Below.drew ?_ | with_reducible refine below_alloc ?_ _)); done)) (first | (go_at_call 44; refine (D1.out _).mono ?_; rintro e w99 ⟨rfl, hb99⟩; obtain ⟨hc99, hf99⟩ := bcell hb99))
      all_goals
        obtain ⟨hb98, -, -⟩ : Below w1.heap.size w1 _ ∧ _ ∧ _ := by assumption
        go_wp2_with fail
        go_meet
        exact ⟨by first | rfl | (simp; done) | (simp; omega), hb98⟩
    case rest =>
      obtain ⟨rfl, hb2⟩ := hcut
      obtain ⟨w2, rfl⟩ : ∃ x : World, x = wc := ⟨_, rfl⟩
      have hs2 := hb2.size
      try simp only [World.size_alloc, World.size_setCell] at hs2
      have N_2 : w2.heap[w.heap.size]? = some (.cells #[.int .u64 a, .int .u64 b, .int .u64 c] 63 (0, 0)) := below_at hb2 (by first | omega | (simp; done) | (simp; omega)) (by (repeat (first | (with_reducible assumption) | (with_reducible exact alloc_at _ _) | ((with_reducible apply alloc_at'); (simp; done)) | (with_reducible apply alloc_at_lt) | (with_reducible apply heap_drew_at) | (with_reducible apply heap_drewN_at) | (with_reducible apply heap_setCell_same) | ((with_reducible apply heap_set_ne); (first | omega | (dsimp only; omega) | (simp; done) | (simp; omega))) | (with_reducible apply setRow_at) | ((with_reducible apply setRow_ne); (first | omega | (dsimp only; omega) | (simp; done) | (simp; omega))))))
      have P_2 : w2.heap[w.heap.size + 1]? = some (.cells #[.int .u64 p] 22 (0, 0)) := below_at hb2 (by first | omega | (simp; done) | (simp; omega)) (by (repeat (first | (with_reducible assumption) | (with_reducible exact alloc_at _ _) | ((with_reducible apply alloc_at'); (simp; done)) | (with_reducible apply alloc_at_lt) | (with_reducible apply heap_drew_at) | (with_reducible apply heap_drewN_at) | (with_reducible apply heap_setCell_same) | ((with_reducible apply heap_set_ne); (first | omega | (dsimp only; omega) | (simp; done) | (simp; omega))) | (with_reducible apply setRow_at) | ((with_reducible apply setRow_ne); (first | omega | (dsimp only; omega) | (simp; done) | (simp; omega))))))
      have Q_2 : w2.heap[w.heap.size + 1 + 1]? = some (.cells #[.int .u64 q] 22 (0, 0)) := below_at hb2 (by first | omega | (simp; done) | (simp; omega)) (by (repeat (first | (with_reducible assumption) | (with_reducible exact alloc_at _ _) | ((with_reducible apply alloc_at'); (simp; done)) | (with_reducible apply alloc_at_lt) | (with_reducible apply heap_drew_at) | (with_reducible apply heap_drewN_at) | (with_reducible apply heap_setCell_same) | ((with_reducible apply heap_set_ne); (first | omega | (dsimp only; omega) | (simp; done) | (simp; omega))) | (with_reducible apply setRow_at) | ((with_reducible apply setRow_ne); (first | omega | (dsimp only; omega) | (simp; done) | (simp; omega))))))
      have R_2 : w2.heap[w.heap.size + 1 + 1 + 1]? = some (.cells #[.int .u64 0, .int .u64 0] 24 (0, 0)) := below_at hb2 (by first | omega | (simp; done) | (simp; omega)) (by (repeat (first | (with_reducible assumption) | (with_reducible exact alloc_at _ _) | ((with_reducible apply alloc_at'); (simp; done)) | (with_reducible apply alloc_at_lt) | (with_reducible apply heap_drew_at) | (with_reducible apply heap_drewN_at) | (with_reducible apply heap_setCell_same) | ((with_reducible apply heap_set_ne); (first | omega | (dsimp only; omega) | (simp; done) | (simp; omega))) | (with_reducible apply setRow_at) | ((with_reducible apply setRow_ne); (first | omega | (dsimp only; omega) | (simp; done) | (simp; omega))))))
      have S_2 : w2.heap[w.heap.size + 1 + 1 + 1 + 1]? = some (.cells #[.pointer (some ⟨w.heap.size + 1, 0, none⟩), .pointer (some ⟨w.heap.size + 1 + 1, 0, none⟩)] 72 (0, 0)) := below_at hb2 (by first | omega | (simp; done) | (simp; omega)) (by (repeat (first | (with_reducible assumption) | (with_reducible exact alloc_at _ _) | ((with_reducible apply alloc_at'); (simp; done)) | (with_reducible apply alloc_at_lt) | (with_reducible apply heap_drew_at) | (with_reducible apply heap_drewN_at) | (with_reducible apply heap_setCell_same) | ((with_reducible apply heap_set_ne); (first | omega | (dsimp only; omega) | (simp; done) | (simp; omega))) | (with_reducible apply setRow_at) | ((with_reducible apply setRow_ne); (first | omega | (dsimp only; omega) | (simp; done) | (simp; omega))))))
      have B2 : Below w.heap.size w w2 := Below.trans (by repeat (first | with_reducible assumption | with_reducible exact Below.refl _ _ | with_reducible refine Below.drew ?_ | with_reducible refine below_drewN ?_ _ | with_reducible refine below_alloc ?_ _ | with_reducible refine Below.alloc ?_ (by first | omega | (simp; done) | (simp; omega)) _ | with_reducible refine Below.setCell ?_ (by first | omega | (simp; done) | (simp; omega)) _ | with_reducible refine below_setRow ?_ (by first | omega | (simp; done) | (simp; omega)) _)) (hb2.mono (by first | omega | (simp; done) | (simp; omega)))
      clear hb2 N_1 P_1 Q_1 R_1 S_1
      clear Nc0 Nc1 Nc2 Ncf
      clear Pc0 Pcf
      clear Qc0 Qcf
      clear Rc0 Rc1 Rcf
      clear Sc0 Sc1 Scf
      have Nc0 : w2.cell? ⟨w.heap.size, 0, none⟩ = some (.int .u64 a) := (blk_cell N_2 0).trans rfl
      have Nc1 : w2.cell? ⟨w.heap.size, 1, none⟩ = some (.int .u64 b) := (blk_cell N_2 1).trans rfl
      have Nc2 : w2.cell? ⟨w.heap.size, 2, none⟩ = some (.int .u64 c) := (blk_cell N_2 2).trans rfl
      have Ncf := blk_free N_2
      have Pc0 : w2.cell? ⟨w.heap.size + 1, 0, none⟩ = some (.int .u64 p) := (blk_cell P_2 0).trans rfl
      have Pcf := blk_free P_2
      have Qc0 : w2.cell? ⟨w.heap.size + 1 + 1, 0, none⟩ = some (.int .u64 q) := (blk_cell Q_2 0).trans rfl
      have Qcf := blk_free Q_2
      have Rc0 : w2.cell? ⟨w.heap.size + 1 + 1 + 1, 0, none⟩ = some (.int .u64 0) := (blk_cell R_2 0).trans rfl
      have Rc1 : w2.cell? ⟨w.heap.size + 1 + 1 + 1, 1, none⟩ = some (.int .u64 0) := (blk_cell R_2 1).trans rfl
      have Rcf := blk_free R_2
      have Sc0 : w2.cell? ⟨w.heap.size + 1 + 1 + 1 + 1, 0, none⟩ = some (.pointer (some ⟨w.heap.size + 1, 0, none⟩)) := (blk_cell S_2 0).trans rfl
      have Sc1 : w2.cell? ⟨w.heap.size + 1 + 1 + 1 + 1, 1, none⟩ = some (.pointer (some ⟨w.heap.size + 1 + 1, 0, none⟩)) := (blk_cell S_2 1).trans rfl
      have Scf := blk_free S_2
      have Nl2 : w.heap.size < w2.heap.size := by omega
      have Pl2 : w.heap.size + 1 < w2.heap.size := by omega
      have Ql2 : w.heap.size + 1 + 1 < w2.heap.size := by omega
      have Rl2 : w.heap.size + 1 + 1 + 1 < w2.heap.size := by omega
      have Sl2 : w.heap.size + 1 + 1 + 1 + 1 < w2.heap.size := by omega
      go_wp2_with fail
      refine (G1.out _).mono ?_
      rintro e w3 ⟨rfl, hb3⟩
      have hs3 := hb3.size
      try simp only [World.size_alloc, World.size_setCell] at hs3
      have N_3 : w3.heap[w.heap.size]? = some (.cells #[.int .u64 a, .int .u64 b, .int .u64 c] 63 (0, 0)) := below_at hb3 (by first | omega | (simp; done) | (simp; omega)) (by (repeat (first | (with_reducible assumption) | (with_reducible exact alloc_at _ _) | ((with_reducible apply alloc_at'); (simp; done)) | (with_reducible apply alloc_at_lt) | (with_reducible apply heap_drew_at) | (with_reducible apply heap_drewN_at) | (with_reducible apply heap_setCell_same) | ((with_reducible apply heap_set_ne); (first | omega | (dsimp only; omega) | (simp; done) | (simp; omega))) | (with_reducible apply setRow_at) | ((with_reducible apply setRow_ne); (first | omega | (dsimp only; omega) | (simp; done) | (simp; omega))))))
      have P_3 : w3.heap[w.heap.size + 1]? = some (.cells #[.int .u64 p] 22 (0, 0)) := below_at hb3 (by first | omega | (simp; done) | (simp; omega)) (by (repeat (first | (with_reducible assumption) | (with_reducible exact alloc_at _ _) | ((with_reducible apply alloc_at'); (simp; done)) | (with_reducible apply alloc_at_lt) | (with_reducible apply heap_drew_at) | (with_reducible apply heap_drewN_at) | (with_reducible apply heap_setCell_same) | ((with_reducible apply heap_set_ne); (first | omega | (dsimp only; omega) | (simp; done) | (simp; omega))) | (with_reducible apply setRow_at) | ((with_reducible apply setRow_ne); (first | omega | (dsimp only; omega) | (simp; done) | (simp; omega))))))
      have Q_3 : w3.heap[w.heap.size + 1 + 1]? = some (.cells #[.int .u64 q] 22 (0, 0)) := below_at hb3 (by first | omega | (simp; done) | (simp; omega)) (by (repeat (first | (with_reducible assumption) | (with_reducible exact alloc_at _ _) | ((with_reducible apply alloc_at'); (simp; done)) | (with_reducible apply alloc_at_lt) | (with_reducible apply heap_drew_at) | (with_reducible apply heap_drewN_at) | (with_reducible apply heap_setCell_same) | ((with_reducible apply heap_set_ne); (first | omega | (dsimp only; omega) | (simp; done) | (simp; omega))) | (with_reducible apply setRow_at) | ((with_reducible apply setRow_ne); (first | omega | (dsimp only; omega) | (simp; done) | (simp; omega))))))
      have R_3 : w3.heap[w.heap.size + 1 + 1 + 1]? = some (.cells #[.int .u64 0, .int .u64 0] 24 (0, 0)) := below_at hb3 (by first | omega | (simp; done) | (simp; omega)) (by (repeat (first | (with_reducible assumption) | (with_reducible exact alloc_at _ _) | ((with_reducible apply alloc_at'); (simp; done)) | (with_reducible apply alloc_at_lt) | (with_reducible apply heap_drew_at) | (with_reducible apply heap_drewN_at) | (with_reducible apply heap_setCell_same) | ((with_reducible apply heap_set_ne); (first | omega | (dsimp only; omega) | (simp; done) | (simp; omega))) | (with_reducible apply setRow_at) | ((with_reducible apply setRow_ne); (first | omega | (dsimp only; omega) | (simp; done) | (simp; omega))))))
      have S_3 : w3.heap[w.heap.size + 1 + 1 + 1 + 1]? = some (.cells #[.pointer (some ⟨w.heap.size + 1, 0, none⟩), .pointer (some ⟨w.heap.size + 1 + 1, 0, none⟩)] 72 (0, 0)) := below_at hb3 (by first | omega | (simp; done) | (simp; omega)) (by (repeat (first | (with_reducible assumption) | (with_reducible exact alloc_at _ _) | ((with_reducible apply alloc_at'); (simp; done)) | (with_reducible apply alloc_at_lt) | (with_reducible apply heap_drew_at) | (with_reducible apply heap_drewN_at) | (with_reducible apply heap_setCell_same) | ((with_reducible apply heap_set_ne); (first | omega | (dsimp only; omega) | (simp; done) | (simp; omega))) | (with_reducible apply setRow_at) | ((with_reducible apply setRow_ne); (first | omega | (dsimp only; omega) | (simp; done) | (simp; omega))))))
      have B3 : Below w.heap.size w w3 := Below.trans (by repeat (first | with_reducible assumption | with_reducible exact Below.refl _ _ | with_reducible refine Below.drew ?_ | with_reducible refine below_drewN ?_ _ | with_reducible refine below_alloc ?_ _ | with_reducible refine Below.alloc ?_ (by first | omega | (simp; done) | (simp; omega)) _ | with_reducible refine Below.setCell ?_ (by first | omega | (simp; done) | (simp; omega)) _ | with_reducible refine below_setRow ?_ (by first | omega | (simp; done) | (simp; omega)) _)) (hb3.mono (by first | omega | (simp; done) | (simp; omega)))
      clear hb3 N_2 P_2 Q_2 R_2 S_2
      clear Nc0 Nc1 Nc2 Ncf
      clear Pc0 Pcf
      clear Qc0 Qcf
      clear Rc0 Rc1 Rcf
      clear Sc0 Sc1 Scf
      have Nc0 : w3.cell? ⟨w.heap.size, 0, none⟩ = some (.int .u64 a) := (blk_cell N_3 0).trans rfl
      have Nc1 : w3.cell? ⟨w.heap.size, 1, none⟩ = some (.int .u64 b) := (blk_cell N_3 1).trans rfl
      have Nc2 : w3.cell? ⟨w.heap.size, 2, none⟩ = some (.int .u64 c) := (blk_cell N_3 2).trans rfl
      have Ncf := blk_free N_3
      have Pc0 : w3.cell? ⟨w.heap.size + 1, 0, none⟩ = some (.int .u64 p) := (blk_cell P_3 0).trans rfl
      have Pcf := blk_free P_3
      have Qc0 : w3.cell? ⟨w.heap.size + 1 + 1, 0, none⟩ = some (.int .u64 q) := (blk_cell Q_3 0).trans rfl
      have Qcf := blk_free Q_3
      have Rc0 : w3.cell? ⟨w.heap.size + 1 + 1 + 1, 0, none⟩ = some (.int .u64 0) := (blk_cell R_3 0).trans rfl
      have Rc1 : w3.cell? ⟨w.heap.size + 1 + 1 + 1, 1, none⟩ = some (.int .u64 0) := (blk_cell R_3 1).trans rfl
      have Rcf := blk_free R_3
      have Sc0 : w3.cell? ⟨w.heap.size + 1 + 1 + 1 + 1, 0, none⟩ = some (.pointer (some ⟨w.heap.size + 1, 0, none⟩)) := (blk_cell S_3 0).trans rfl
      have Sc1 : w3.cell? ⟨w.heap.size + 1 + 1 + 1 + 1, 1, none⟩ = some (.pointer (some ⟨w.heap.size + 1 + 1, 0, none⟩)) := (blk_cell S_3 1).trans rfl
      have Scf := blk_free S_3
      have Nl3 : w.heap.size < w3.heap.size := by omega
      have Pl3 : w.heap.size + 1 < w3.heap.size := by omega
      have Ql3 : w.heap.size + 1 + 1 < w3.heap.size := by omega
      have Rl3 : w.heap.size + 1 + 1 + 1 < w3.heap.size := by omega
      have Sl3 : w.heap.size + 1 + 1 + 1 + 1 < w3.heap.size := by omega
      go_wp2_with fail
      refine (D2.out _).mono ?_
      rintro e w4 ⟨rfl, hb4⟩
      have hs4 := hb4.size
      try simp only [World.size_alloc, World.size_setCell] at hs4
      have N_4 : w4.heap[w.heap.size]? = some (.cells #[.int .u64 a, .int .u64 b, .int .u64 c] 63 (0, 0)) := below_at hb4 (by first | omega | (simp; done) | (simp; omega)) (by (repeat (first | (with_reducible assumption) | (with_reducible exact alloc_at _ _) | ((with_reducible apply alloc_at'); (simp; done)) | (with_reducible apply alloc_at_lt) | (with_reducible apply heap_drew_at) | (with_reducible apply heap_drewN_at) | (with_reducible apply heap_setCell_same) | ((with_reducible apply heap_set_ne); (first | omega | (dsimp only; omega) | (simp; done) | (simp; omega))) | (with_reducible apply setRow_at) | ((with_reducible apply setRow_ne); (first | omega | (dsimp only; omega) | (simp; done) | (simp; omega))))))
      have P_4 : w4.heap[w.heap.size + 1]? = some (.cells #[.int .u64 p] 22 (0, 0)) := below_at hb4 (by first | omega | (simp; done) | (simp; omega)) (by (repeat (first | (with_reducible assumption) | (with_reducible exact alloc_at _ _) | ((with_reducible apply alloc_at'); (simp; done)) | (with_reducible apply alloc_at_lt) | (with_reducible apply heap_drew_at) | (with_reducible apply heap_drewN_at) | (with_reducible apply heap_setCell_same) | ((with_reducible apply heap_set_ne); (first | omega | (dsimp only; omega) | (simp; done) | (simp; omega))) | (with_reducible apply setRow_at) | ((with_reducible apply setRow_ne); (first | omega | (dsimp only; omega) | (simp; done) | (simp; omega))))))
      have Q_4 : w4.heap[w.heap.size + 1 + 1]? = some (.cells #[.int .u64 q] 22 (0, 0)) := below_at hb4 (by first | omega | (simp; done) | (simp; omega)) (by (repeat (first | (with_reducible assumption) | (with_reducible exact alloc_at _ _) | ((with_reducible apply alloc_at'); (simp; done)) | (with_reducible apply alloc_at_lt) | (with_reducible apply heap_drew_at) | (with_reducible apply heap_drewN_at) | (with_reducible apply heap_setCell_same) | ((with_reducible apply heap_set_ne); (first | omega | (dsimp only; omega) | (simp; done) | (simp; omega))) | (with_reducible apply setRow_at) | ((with_reducible apply setRow_ne); (first | omega | (dsimp only; omega) | (simp; done) | (simp; omega))))))
      have R_4 : w4.heap[w.heap.size + 1 + 1 + 1]? = some (.cells #[.int .u64 0, .int .u64 0] 24 (0, 0)) := below_at hb4 (by first | omega | (simp; done) | (simp; omega)) (by (repeat (first | (with_reducible assumption) | (with_reducible exact alloc_at _ _) | ((with_reducible apply alloc_at'); (simp; done)) | (with_reducible apply alloc_at_lt) | (with_reducible apply heap_drew_at) | (with_reducible apply heap_drewN_at) | (with_reducible apply heap_setCell_same) | ((with_reducible apply heap_set_ne); (first | omega | (dsimp only; omega) | (simp; done) | (simp; omega))) | (with_reducible apply setRow_at) | ((with_reducible apply setRow_ne); (first | omega | (dsimp only; omega) | (simp; done) | (simp; omega))))))
      have S_4 : w4.heap[w.heap.size + 1 + 1 + 1 + 1]? = some (.cells #[.pointer (some ⟨w.heap.size + 1, 0, none⟩), .pointer (some ⟨w.heap.size + 1 + 1, 0, none⟩)] 72 (0, 0)) := below_at hb4 (by first | omega | (simp; done) | (simp; omega)) (by (repeat (first | (with_reducible assumption) | (with_reducible exact alloc_at _ _) | ((with_reducible apply alloc_at'); (simp; done)) | (with_reducible apply alloc_at_lt) | (with_reducible apply heap_drew_at) | (with_reducible apply heap_drewN_at) | (with_reducible apply heap_setCell_same) | ((with_reducible apply heap_set_ne); (first | omega | (dsimp only; omega) | (simp; done) | (simp; omega))) | (with_reducible apply setRow_at) | ((with_reducible apply setRow_ne); (first | omega | (dsimp only; omega) | (simp; done) | (simp; omega))))))
      have B4 : Below w.heap.size w w4 := Below.trans (by repeat (first | with_reducible assumption | with_reducible exact Below.refl _ _ | with_reducible refine Below.drew ?_ | with_reducible refine below_drewN ?_ _ | with_reducible refine below_alloc ?_ _ | with_reducible refine Below.alloc ?_ (by first | omega | (simp; done) | (simp; omega)) _ | with_reducible refine Below.setCell ?_ (by first | omega | (simp; done) | (simp; omega)) _ | with_reducible refine below_setRow ?_ (by first | omega | (simp; done) | (simp; omega)) _)) (hb4.mono (by first | omega | (simp; done) | (simp; omega)))
      clear hb4 N_3 P_3 Q_3 R_3 S_3
      clear Nc0 Nc1 Nc2 Ncf
      clear Pc0 Pcf
      clear Qc0 Qcf
      clear Rc0 Rc1 Rcf
      clear Sc0 Sc1 Scf
      have Nc0 : w4.cell? ⟨w.heap.size, 0, none⟩ = some (.int .u64 a) := (blk_cell N_4 0).trans rfl
      have Nc1 : w4.cell? ⟨w.heap.size, 1, none⟩ = some (.int .u64 b) := (blk_cell N_4 1).trans rfl
      have Nc2 : w4.cell? ⟨w.heap.size, 2, none⟩ = some (.int .u64 c) := (blk_cell N_4 2).trans rfl
      have Ncf := blk_free N_4
      have Pc0 : w4.cell? ⟨w.heap.size + 1, 0, none⟩ = some (.int .u64 p) := (blk_cell P_4 0).trans rfl
      have Pcf := blk_free P_4
      have Qc0 : w4.cell? ⟨w.heap.size + 1 + 1, 0, none⟩ = some (.int .u64 q) := (blk_cell Q_4 0).trans rfl
      have Qcf := blk_free Q_4
      have Rc0 : w4.cell? ⟨w.heap.size + 1 + 1 + 1, 0, none⟩ = some (.int .u64 0) := (blk_cell R_4 0).trans rfl
      have Rc1 : w4.cell? ⟨w.heap.size + 1 + 1 + 1, 1, none⟩ = some (.int .u64 0) := (blk_cell R_4 1).trans rfl
      have Rcf := blk_free R_4
      have Sc0 : w4.cell? ⟨w.heap.size + 1 + 1 + 1 + 1, 0, none⟩ = some (.pointer (some ⟨w.heap.size + 1, 0, none⟩)) := (blk_cell S_4 0).trans rfl
      have Sc1 : w4.cell? ⟨w.heap.size + 1 + 1 + 1 + 1, 1, none⟩ = some (.pointer (some ⟨w.heap.size + 1 + 1, 0, none⟩)) := (blk_cell S_4 1).trans rfl
      have Scf := blk_free S_4
      have Nl4 : w.heap.size < w4.heap.size := by omega
      have Pl4 : w.heap.size + 1 < w4.heap.size := by omega
      have Ql4 : w.heap.size + 1 + 1 < w4.heap.size := by omega
      have Rl4 : w.heap.size + 1 + 1 + 1 < w4.heap.size := by omega
      have Sl4 : w.heap.size + 1 + 1 + 1 + 1 < w4.heap.size := by omega
      have hq_p1 := E1.out
      go_wp2_with fail
      clear hq_p1
      rw [rounds_succ]
      go_upto_region 3 with fail
      go_cut [9] (fun s wx => s = .pointer (some ⟨w.heap.size + 1 + 1, 0, none⟩) ∧ Below w.heap.size w wx ∧ wx.heap[w.heap.size]? = some (.cells #[.int .u64 a1, .int .u64 b1, .int .u64 c1] 63 (0, 0)) ∧ wx.heap[w.heap.size + 1]? = some (.cells #[.int .u64 p1] 22 (0, 0)) ∧ wx.heap[w.heap.size + 1 + 1]? = some (.cells #[.int .u64 q] 22 (0, 0)) ∧ wx.heap[w.heap.size + 1 + 1 + 1]? = some (.cells #[.int .u64 0, .int .u64 0] 24 (0, 0)) ∧ wx.heap[w.heap.size + 1 + 1 + 1 + 1]? = some (.cells #[.pointer (some ⟨w.heap.size + 1, 0, none⟩), .pointer (some ⟨w.heap.size + 1 + 1, 0, none⟩)] 72 (0, 0)))
      case first =>
        go_wp2
        go_meet
        exact ⟨rfl, (by repeat (first | with_reducible assumption | with_reducible exact Below.refl _ _ | with_reducible refine Below.drew ?_ | with_reducible refine below_drewN ?_ _ | with_reducible refine below_alloc ?_ _ | with_reducible refine Below.alloc ?_ (by first | omega | (simp; done) | (simp; omega)) _ | with_reducible refine Below.setCell ?_ (by first | omega | (simp; done) | (simp; omega)) _ | with_reducible refine below_setRow ?_ (by first | omega | (simp; done) | (simp; omega)) _)), (at_of (by apply Exists.intro; refine ⟨?_, ?_⟩; (focus ((repeat (first | (with_reducible assumption) | (with_reducible exact alloc_at _ _) | ((with_reducible apply alloc_at'); (simp; done)) | (with_reducible apply alloc_at_lt) | (with_reducible apply heap_drew_at) | (with_reducible apply heap_drewN_at) | (with_reducible apply heap_setCell_same) | ((with_reducible apply heap_set_ne); (first | omega | (dsimp only; omega) | (simp; done) | (simp; omega))) | (with_reducible apply setRow_at) | ((with_reducible apply setRow_ne); (first | omega | (dsimp only; omega) | (simp; done) | (simp; omega))))))); simp)), (at_of (by apply Exists.intro; refine ⟨?_, ?_⟩; (focus ((repeat (first | (with_reducible assumption) | (with_reducible exact alloc_at _ _) | ((with_reducible apply alloc_at'); (simp; done)) | (with_reducible apply alloc_at_lt) | (with_reducible apply heap_drew_at) | (with_reducible apply heap_drewN_at) | (with_reducible apply heap_setCell_same) | ((with_reducible apply heap_set_ne); (first | omega | (dsimp only; omega) | (simp; done) | (simp; omega))) | (with_reducible apply setRow_at) | ((with_reducible apply setRow_ne); (first | omega | (dsimp only; omega) | (simp; done) | (simp; omega))))))); simp)), (at_of (by apply Exists.intro; refine ⟨?_, ?_⟩; (focus ((repeat (first | (with_reducible assumption) | (with_reducible exact alloc_at _ _) | ((with_reducible apply alloc_at'); (simp; done)) | (with_reducible apply alloc_at_lt) | (with_reducible apply heap_drew_at) | (with_reducible apply heap_drewN_at) | (with_reducible apply heap_setCell_same) | ((with_reducible apply heap_set_ne); (first | omega | (dsimp only; omega) | (simp; done) | (simp; omega))) | (with_reducible apply setRow_at) | ((with_reducible apply setRow_ne); (first | omega | (dsimp only; omega) | (simp; done) | (simp; omega))))))); simp)), (at_of (by apply Exists.intro; refine ⟨?_, ?_⟩; (focus ((repeat (first | (with_reducible assumption) | (with_reducible exact alloc_at _ _) | ((with_reducible apply alloc_at'); (simp; done)) | (with_reducible apply alloc_at_lt) | (with_reducible apply heap_drew_at) | (with_reducible apply heap_drewN_at) | (with_reducible apply heap_setCell_same) | ((with_reducible apply heap_set_ne); (first | omega | (dsimp only; omega) | (simp; done) | (simp; omega))) | (with_reducible apply setRow_at) | ((with_reducible apply setRow_ne); (first | omega | (dsimp only; omega) | (simp; done) | (simp; omega))))))); simp)), (at_of (by apply Exists.intro; refine ⟨?_, ?_⟩; (focus ((repeat (first | (with_reducible assumption) | (with_reducible exact alloc_at _ _) | ((with_reducible apply alloc_at'); (simp; done)) | (with_reducible apply alloc_at_lt) | (with_reducible apply heap_drew_at) | (with_reducible apply heap_drewN_at) | (with_reducible apply heap_setCell_same) | ((with_reducible apply heap_set_ne); (first | omega | (dsimp only; omega) | (simp; done) | (simp; omega))) | (with_reducible apply setRow_at) | ((with_reducible apply setRow_ne); (first | omega | (dsimp only; omega) | (simp; done) | (simp; omega))))))); simp))⟩
      case rest =>
        obtain ⟨rfl, B5, N_5, P_5, Q_5, R_5, S_5⟩ := hcut
        obtain ⟨w5, rfl⟩ : ∃ x : World, x = wc := ⟨_, rfl⟩
        clear N_4
        clear P_4
        clear Q_4
        clear R_4
        clear S_4
        clear Nc0 Nc1 Nc2 Ncf
        clear Pc0 Pcf
        clear Qc0 Qcf
        clear Rc0 Rc1 Rcf
        clear Sc0 Sc1 Scf
        have Nc0 : w5.cell? ⟨w.heap.size, 0, none⟩ = some (.int .u64 a1) := (blk_cell N_5 0).trans rfl
        have Nc1 : w5.cell? ⟨w.heap.size, 1, none⟩ = some (.int .u64 b1) := (blk_cell N_5 1).trans rfl
        have Nc2 : w5.cell? ⟨w.heap.size, 2, none⟩ = some (.int .u64 c1) := (blk_cell N_5 2).trans rfl
        have Ncf := blk_free N_5
        have Pc0 : w5.cell? ⟨w.heap.size + 1, 0, none⟩ = some (.int .u64 p1) := (blk_cell P_5 0).trans rfl
        have Pcf := blk_free P_5
        have Qc0 : w5.cell? ⟨w.heap.size + 1 + 1, 0, none⟩ = some (.int .u64 q) := (blk_cell Q_5 0).trans rfl
        have Qcf := blk_free Q_5
        have Rc0 : w5.cell? ⟨w.heap.size + 1 + 1 + 1, 0, none⟩ = some (.int .u64 0) := (blk_cell R_5 0).trans rfl
        have Rc1 : w5.cell? ⟨w.heap.size + 1 + 1 + 1, 1, none⟩ = some (.int .u64 0) := (blk_cell R_5 1).trans rfl
        have Rcf := blk_free R_5
        have Sc0 : w5.cell? ⟨w.heap.size + 1 + 1 + 1 + 1, 0, none⟩ = some (.pointer (some ⟨w.heap.size + 1, 0, none⟩)) := (blk_cell S_5 0).trans rfl
        have Sc1 : w5.cell? ⟨w.heap.size + 1 + 1 + 1 + 1, 1, none⟩ = some (.pointer (some ⟨w.heap.size + 1 + 1, 0, none⟩)) := (blk_cell S_5 1).trans rfl
        have Scf := blk_free S_5
        have Nl5 : w.heap.size < w5.heap.size := lt_of_at N_5
        have Pl5 : w.heap.size + 1 < w5.heap.size := lt_of_at P_5
        have Ql5 : w.heap.size + 1 + 1 < w5.heap.size := lt_of_at Q_5
        have Rl5 : w.heap.size + 1 + 1 + 1 < w5.heap.size := lt_of_at R_5
        have Sl5 : w.heap.size + 1 + 1 + 1 + 1 < w5.heap.size := lt_of_at S_5
        go_upto_region 4 with fail
        go_cut [11] (fun s0_ wx => s0_ = .int .u64 r2 ∧ Below w5.heap.size w5 wx)
        case first =>
          go_region_held3 (fun w' => Below w5.heap.size w5 w' ∧ (∀ b o, b < w5.heap.size → w'.cell? ⟨b, o, none⟩ = w5.cell? ⟨b, o, none⟩) ∧ ∀ b o, b < w5.heap.size → w'.frozen? ⟨b, o, none⟩ = w5.frozen? ⟨b, o, none⟩) (first | ((try go_split_ands); (try dsimp only); refine same_of ?_; (repeat (first | with_reducible assumption | with_reducible exact Below.refl _ _ | with_reducible refine Below.drew ?_ | with_reducible refine below_drewN ?_ _ | with_reducible refine below_alloc ?_ _ | with_reducible refine Below.alloc ?_ (by first | omega | (simp; done) | (simp; omega)) _ | with_reducible refine Below.setCell ?_ (by first | omega | (simp; done) | (simp; omega)) _ | with_reducible refine below_setRow ?_ (by first | omega | (simp; done) | (simp; omega)) _)); done) | ((try go_split_ands); (try dsimp only); refine same_of ?_; (repeat (first | with_reducible refine below_call ?_ hb99 | with_reducible assumption | with_reducible exact Below.refl _ _ | with_reducible refine Below.drew ?_ | with_reducible refine below_alloc ?_ _)); done)) (first | (go_at_call 44; refine (D3.out _).mono ?_; rintro e w99 ⟨rfl, hb99⟩; obtain ⟨hc99, hf99⟩ := bcell hb99))
          all_goals
            obtain ⟨hb98, -, -⟩ : Below w5.heap.size w5 _ ∧ _ ∧ _ := by assumption
            go_wp2_with fail
            go_meet
            exact ⟨by first | rfl | (simp; done) | (simp; omega), hb98⟩
        case rest =>
          obtain ⟨rfl, hb6⟩ := hcut
          obtain ⟨w6, rfl⟩ : ∃ x : World, x = wc := ⟨_, rfl⟩
          have hs6 := hb6.size
          try simp only [World.size_alloc, World.size_setCell] at hs6
          have N_6 : w6.heap[w.heap.size]? = some (.cells #[.int .u64 a1, .int .u64 b1, .int .u64 c1] 63 (0, 0)) := below_at hb6 (by first | omega | (simp; done) | (simp; omega)) (by (repeat (first | (with_reducible assumption) | (with_reducible exact alloc_at _ _) | ((with_reducible apply alloc_at'); (simp; done)) | (with_reducible apply alloc_at_lt) | (with_reducible apply heap_drew_at) | (with_reducible apply heap_drewN_at) | (with_reducible apply heap_setCell_same) | ((with_reducible apply heap_set_ne); (first | omega | (dsimp only; omega) | (simp; done) | (simp; omega))) | (with_reducible apply setRow_at) | ((with_reducible apply setRow_ne); (first | omega | (dsimp only; omega) | (simp; done) | (simp; omega))))))
          have P_6 : w6.heap[w.heap.size + 1]? = some (.cells #[.int .u64 p1] 22 (0, 0)) := below_at hb6 (by first | omega | (simp; done) | (simp; omega)) (by (repeat (first | (with_reducible assumption) | (with_reducible exact alloc_at _ _) | ((with_reducible apply alloc_at'); (simp; done)) | (with_reducible apply alloc_at_lt) | (with_reducible apply heap_drew_at) | (with_reducible apply heap_drewN_at) | (with_reducible apply heap_setCell_same) | ((with_reducible apply heap_set_ne); (first | omega | (dsimp only; omega) | (simp; done) | (simp; omega))) | (with_reducible apply setRow_at) | ((with_reducible apply setRow_ne); (first | omega | (dsimp only; omega) | (simp; done) | (simp; omega))))))
          have Q_6 : w6.heap[w.heap.size + 1 + 1]? = some (.cells #[.int .u64 q] 22 (0, 0)) := below_at hb6 (by first | omega | (simp; done) | (simp; omega)) (by (repeat (first | (with_reducible assumption) | (with_reducible exact alloc_at _ _) | ((with_reducible apply alloc_at'); (simp; done)) | (with_reducible apply alloc_at_lt) | (with_reducible apply heap_drew_at) | (with_reducible apply heap_drewN_at) | (with_reducible apply heap_setCell_same) | ((with_reducible apply heap_set_ne); (first | omega | (dsimp only; omega) | (simp; done) | (simp; omega))) | (with_reducible apply setRow_at) | ((with_reducible apply setRow_ne); (first | omega | (dsimp only; omega) | (simp; done) | (simp; omega))))))
          have R_6 : w6.heap[w.heap.size + 1 + 1 + 1]? = some (.cells #[.int .u64 0, .int .u64 0] 24 (0, 0)) := below_at hb6 (by first | omega | (simp; done) | (simp; omega)) (by (repeat (first | (with_reducible assumption) | (with_reducible exact alloc_at _ _) | ((with_reducible apply alloc_at'); (simp; done)) | (with_reducible apply alloc_at_lt) | (with_reducible apply heap_drew_at) | (with_reducible apply heap_drewN_at) | (with_reducible apply heap_setCell_same) | ((with_reducible apply heap_set_ne); (first | omega | (dsimp only; omega) | (simp; done) | (simp; omega))) | (with_reducible apply setRow_at) | ((with_reducible apply setRow_ne); (first | omega | (dsimp only; omega) | (simp; done) | (simp; omega))))))
          have S_6 : w6.heap[w.heap.size + 1 + 1 + 1 + 1]? = some (.cells #[.pointer (some ⟨w.heap.size + 1, 0, none⟩), .pointer (some ⟨w.heap.size + 1 + 1, 0, none⟩)] 72 (0, 0)) := below_at hb6 (by first | omega | (simp; done) | (simp; omega)) (by (repeat (first | (with_reducible assumption) | (with_reducible exact alloc_at _ _) | ((with_reducible apply alloc_at'); (simp; done)) | (with_reducible apply alloc_at_lt) | (with_reducible apply heap_drew_at) | (with_reducible apply heap_drewN_at) | (with_reducible apply heap_setCell_same) | ((with_reducible apply heap_set_ne); (first | omega | (dsimp only; omega) | (simp; done) | (simp; omega))) | (with_reducible apply setRow_at) | ((with_reducible apply setRow_ne); (first | omega | (dsimp only; omega) | (simp; done) | (simp; omega))))))
          have B6 : Below w.heap.size w w6 := Below.trans (by repeat (first | with_reducible assumption | with_reducible exact Below.refl _ _ | with_reducible refine Below.drew ?_ | with_reducible refine below_drewN ?_ _ | with_reducible refine below_alloc ?_ _ | with_reducible refine Below.alloc ?_ (by first | omega | (simp; done) | (simp; omega)) _ | with_reducible refine Below.setCell ?_ (by first | omega | (simp; done) | (simp; omega)) _ | with_reducible refine below_setRow ?_ (by first | omega | (simp; done) | (simp; omega)) _)) (hb6.mono (by first | omega | (simp; done) | (simp; omega)))
          clear hb6 N_5 P_5 Q_5 R_5 S_5
          clear Nc0 Nc1 Nc2 Ncf
          clear Pc0 Pcf
          clear Qc0 Qcf
          clear Rc0 Rc1 Rcf
          clear Sc0 Sc1 Scf
          have Nc0 : w6.cell? ⟨w.heap.size, 0, none⟩ = some (.int .u64 a1) := (blk_cell N_6 0).trans rfl
          have Nc1 : w6.cell? ⟨w.heap.size, 1, none⟩ = some (.int .u64 b1) := (blk_cell N_6 1).trans rfl
          have Nc2 : w6.cell? ⟨w.heap.size, 2, none⟩ = some (.int .u64 c1) := (blk_cell N_6 2).trans rfl
          have Ncf := blk_free N_6
          have Pc0 : w6.cell? ⟨w.heap.size + 1, 0, none⟩ = some (.int .u64 p1) := (blk_cell P_6 0).trans rfl
          have Pcf := blk_free P_6
          have Qc0 : w6.cell? ⟨w.heap.size + 1 + 1, 0, none⟩ = some (.int .u64 q) := (blk_cell Q_6 0).trans rfl
          have Qcf := blk_free Q_6
          have Rc0 : w6.cell? ⟨w.heap.size + 1 + 1 + 1, 0, none⟩ = some (.int .u64 0) := (blk_cell R_6 0).trans rfl
          have Rc1 : w6.cell? ⟨w.heap.size + 1 + 1 + 1, 1, none⟩ = some (.int .u64 0) := (blk_cell R_6 1).trans rfl
          have Rcf := blk_free R_6
          have Sc0 : w6.cell? ⟨w.heap.size + 1 + 1 + 1 + 1, 0, none⟩ = some (.pointer (some ⟨w.heap.size + 1, 0, none⟩)) := (blk_cell S_6 0).trans rfl
          have Sc1 : w6.cell? ⟨w.heap.size + 1 + 1 + 1 + 1, 1, none⟩ = some (.pointer (some ⟨w.heap.size + 1 + 1, 0, none⟩)) := (blk_cell S_6 1).trans rfl
          have Scf := blk_free S_6
          have Nl6 : w.heap.size < w6.heap.size := by omega
          have Pl6 : w.heap.size + 1 < w6.heap.size := by omega
          have Ql6 : w.heap.size + 1 + 1 < w6.heap.size := by omega
          have Rl6 : w.heap.size + 1 + 1 + 1 < w6.heap.size := by omega
          have Sl6 : w.heap.size + 1 + 1 + 1 + 1 < w6.heap.size := by omega
          go_wp2_with fail
          refine (G2.out _).mono ?_
          rintro e w7 ⟨rfl, hb7⟩
          have hs7 := hb7.size
          try simp only [World.size_alloc, World.size_setCell] at hs7
          have N_7 : w7.heap[w.heap.size]? = some (.cells #[.int .u64 a1, .int .u64 b1, .int .u64 c1] 63 (0, 0)) := below_at hb7 (by first | omega | (simp; done) | (simp; omega)) (by (repeat (first | (with_reducible assumption) | (with_reducible exact alloc_at _ _) | ((with_reducible apply alloc_at'); (simp; done)) | (with_reducible apply alloc_at_lt) | (with_reducible apply heap_drew_at) | (with_reducible apply heap_drewN_at) | (with_reducible apply heap_setCell_same) | ((with_reducible apply heap_set_ne); (first | omega | (dsimp only; omega) | (simp; done) | (simp; omega))) | (with_reducible apply setRow_at) | ((with_reducible apply setRow_ne); (first | omega | (dsimp only; omega) | (simp; done) | (simp; omega))))))
          have P_7 : w7.heap[w.heap.size + 1]? = some (.cells #[.int .u64 p1] 22 (0, 0)) := below_at hb7 (by first | omega | (simp; done) | (simp; omega)) (by (repeat (first | (with_reducible assumption) | (with_reducible exact alloc_at _ _) | ((with_reducible apply alloc_at'); (simp; done)) | (with_reducible apply alloc_at_lt) | (with_reducible apply heap_drew_at) | (with_reducible apply heap_drewN_at) | (with_reducible apply heap_setCell_same) | ((with_reducible apply heap_set_ne); (first | omega | (dsimp only; omega) | (simp; done) | (simp; omega))) | (with_reducible apply setRow_at) | ((with_reducible apply setRow_ne); (first | omega | (dsimp only; omega) | (simp; done) | (simp; omega))))))
          have Q_7 : w7.heap[w.heap.size + 1 + 1]? = some (.cells #[.int .u64 q] 22 (0, 0)) := below_at hb7 (by first | omega | (simp; done) | (simp; omega)) (by (repeat (first | (with_reducible assumption) | (with_reducible exact alloc_at _ _) | ((with_reducible apply alloc_at'); (simp; done)) | (with_reducible apply alloc_at_lt) | (with_reducible apply heap_drew_at) | (with_reducible apply heap_drewN_at) | (with_reducible apply heap_setCell_same) | ((with_reducible apply heap_set_ne); (first | omega | (dsimp only; omega) | (simp; done) | (simp; omega))) | (with_reducible apply setRow_at) | ((with_reducible apply setRow_ne); (first | omega | (dsimp only; omega) | (simp; done) | (simp; omega))))))
          have R_7 : w7.heap[w.heap.size + 1 + 1 + 1]? = some (.cells #[.int .u64 0, .int .u64 0] 24 (0, 0)) := below_at hb7 (by first | omega | (simp; done) | (simp; omega)) (by (repeat (first | (with_reducible assumption) | (with_reducible exact alloc_at _ _) | ((with_reducible apply alloc_at'); (simp; done)) | (with_reducible apply alloc_at_lt) | (with_reducible apply heap_drew_at) | (with_reducible apply heap_drewN_at) | (with_reducible apply heap_setCell_same) | ((with_reducible apply heap_set_ne); (first | omega | (dsimp only; omega) | (simp; done) | (simp; omega))) | (with_reducible apply setRow_at) | ((with_reducible apply setRow_ne); (first | omega | (dsimp only; omega) | (simp; done) | (simp; omega))))))
          have S_7 : w7.heap[w.heap.size + 1 + 1 + 1 + 1]? = some (.cells #[.pointer (some ⟨w.heap.size + 1, 0, none⟩), .pointer (some ⟨w.heap.size + 1 + 1, 0, none⟩)] 72 (0, 0)) := below_at hb7 (by first | omega | (simp; done) | (simp; omega)) (by (repeat (first | (with_reducible assumption) | (with_reducible exact alloc_at _ _) | ((with_reducible apply alloc_at'); (simp; done)) | (with_reducible apply alloc_at_lt) | (with_reducible apply heap_drew_at) | (with_reducible apply heap_drewN_at) | (with_reducible apply heap_setCell_same) | ((with_reducible apply heap_set_ne); (first | omega | (dsimp only; omega) | (simp; done) | (simp; omega))) | (with_reducible apply setRow_at) | ((with_reducible apply setRow_ne); (first | omega | (dsimp only; omega) | (simp; done) | (simp; omega))))))
          have B7 : Below w.heap.size w w7 := Below.trans (by repeat (first | with_reducible assumption | with_reducible exact Below.refl _ _ | with_reducible refine Below.drew ?_ | with_reducible refine below_drewN ?_ _ | with_reducible refine below_alloc ?_ _ | with_reducible refine Below.alloc ?_ (by first | omega | (simp; done) | (simp; omega)) _ | with_reducible refine Below.setCell ?_ (by first | omega | (simp; done) | (simp; omega)) _ | with_reducible refine below_setRow ?_ (by first | omega | (simp; done) | (simp; omega)) _)) (hb7.mono (by first | omega | (simp; done) | (simp; omega)))
          clear hb7 N_6 P_6 Q_6 R_6 S_6
          clear Nc0 Nc1 Nc2 Ncf
          clear Pc0 Pcf
          clear Qc0 Qcf
          clear Rc0 Rc1 Rcf
          clear Sc0 Sc1 Scf
          have Nc0 : w7.cell? ⟨w.heap.size, 0, none⟩ = some (.int .u64 a1) := (blk_cell N_7 0).trans rfl
          have Nc1 : w7.cell? ⟨w.heap.size, 1, none⟩ = some (.int .u64 b1) := (blk_cell N_7 1).trans rfl
          have Nc2 : w7.cell? ⟨w.heap.size, 2, none⟩ = some (.int .u64 c1) := (blk_cell N_7 2).trans rfl
          have Ncf := blk_free N_7
          have Pc0 : w7.cell? ⟨w.heap.size + 1, 0, none⟩ = some (.int .u64 p1) := (blk_cell P_7 0).trans rfl
          have Pcf := blk_free P_7
          have Qc0 : w7.cell? ⟨w.heap.size + 1 + 1, 0, none⟩ = some (.int .u64 q) := (blk_cell Q_7 0).trans rfl
          have Qcf := blk_free Q_7
          have Rc0 : w7.cell? ⟨w.heap.size + 1 + 1 + 1, 0, none⟩ = some (.int .u64 0) := (blk_cell R_7 0).trans rfl
          have Rc1 : w7.cell? ⟨w.heap.size + 1 + 1 + 1, 1, none⟩ = some (.int .u64 0) := (blk_cell R_7 1).trans rfl
          have Rcf := blk_free R_7
          have Sc0 : w7.cell? ⟨w.heap.size + 1 + 1 + 1 + 1, 0, none⟩ = some (.pointer (some ⟨w.heap.size + 1, 0, none⟩)) := (blk_cell S_7 0).trans rfl
          have Sc1 : w7.cell? ⟨w.heap.size + 1 + 1 + 1 + 1, 1, none⟩ = some (.pointer (some ⟨w.heap.size + 1 + 1, 0, none⟩)) := (blk_cell S_7 1).trans rfl
          have Scf := blk_free S_7
          have Nl7 : w.heap.size < w7.heap.size := by omega
          have Pl7 : w.heap.size + 1 < w7.heap.size := by omega
          have Ql7 : w.heap.size + 1 + 1 < w7.heap.size := by omega
          have Rl7 : w.heap.size + 1 + 1 + 1 < w7.heap.size := by omega
          have Sl7 : w.heap.size + 1 + 1 + 1 + 1 < w7.heap.size := by omega
          go_wp2_with fail
          refine (D4.out _).mono ?_
          rintro e w8 ⟨rfl, hb8⟩
          have hs8 := hb8.size
          try simp only [World.size_alloc, World.size_setCell] at hs8
          have N_8 : w8.heap[w.heap.size]? = some (.cells #[.int .u64 a1, .int .u64 b1, .int .u64 c1] 63 (0, 0)) := below_at hb8 (by first | omega | (simp; done) | (simp; omega)) (by (repeat (first | (with_reducible assumption) | (with_reducible exact alloc_at _ _) | ((with_reducible apply alloc_at'); (simp; done)) | (with_reducible apply alloc_at_lt) | (with_reducible apply heap_drew_at) | (with_reducible apply heap_drewN_at) | (with_reducible apply heap_setCell_same) | ((with_reducible apply heap_set_ne); (first | omega | (dsimp only; omega) | (simp; done) | (simp; omega))) | (with_reducible apply setRow_at) | ((with_reducible apply setRow_ne); (first | omega | (dsimp only; omega) | (simp; done) | (simp; omega))))))
          have P_8 : w8.heap[w.heap.size + 1]? = some (.cells #[.int .u64 p1] 22 (0, 0)) := below_at hb8 (by first | omega | (simp; done) | (simp; omega)) (by (repeat (first | (with_reducible assumption) | (with_reducible exact alloc_at _ _) | ((with_reducible apply alloc_at'); (simp; done)) | (with_reducible apply alloc_at_lt) | (with_reducible apply heap_drew_at) | (with_reducible apply heap_drewN_at) | (with_reducible apply heap_setCell_same) | ((with_reducible apply heap_set_ne); (first | omega | (dsimp only; omega) | (simp; done) | (simp; omega))) | (with_reducible apply setRow_at) | ((with_reducible apply setRow_ne); (first | omega | (dsimp only; omega) | (simp; done) | (simp; omega))))))
          have Q_8 : w8.heap[w.heap.size + 1 + 1]? = some (.cells #[.int .u64 q] 22 (0, 0)) := below_at hb8 (by first | omega | (simp; done) | (simp; omega)) (by (repeat (first | (with_reducible assumption) | (with_reducible exact alloc_at _ _) | ((with_reducible apply alloc_at'); (simp; done)) | (with_reducible apply alloc_at_lt) | (with_reducible apply heap_drew_at) | (with_reducible apply heap_drewN_at) | (with_reducible apply heap_setCell_same) | ((with_reducible apply heap_set_ne); (first | omega | (dsimp only; omega) | (simp; done) | (simp; omega))) | (with_reducible apply setRow_at) | ((with_reducible apply setRow_ne); (first | omega | (dsimp only; omega) | (simp; done) | (simp; omega))))))
          have R_8 : w8.heap[w.heap.size + 1 + 1 + 1]? = some (.cells #[.int .u64 0, .int .u64 0] 24 (0, 0)) := below_at hb8 (by first | omega | (simp; done) | (simp; omega)) (by (repeat (first | (with_reducible assumption) | (with_reducible exact alloc_at _ _) | ((with_reducible apply alloc_at'); (simp; done)) | (with_reducible apply alloc_at_lt) | (with_reducible apply heap_drew_at) | (with_reducible apply heap_drewN_at) | (with_reducible apply heap_setCell_same) | ((with_reducible apply heap_set_ne); (first | omega | (dsimp only; omega) | (simp; done) | (simp; omega))) | (with_reducible apply setRow_at) | ((with_reducible apply setRow_ne); (first | omega | (dsimp only; omega) | (simp; done) | (simp; omega))))))
          have S_8 : w8.heap[w.heap.size + 1 + 1 + 1 + 1]? = some (.cells #[.pointer (some ⟨w.heap.size + 1, 0, none⟩), .pointer (some ⟨w.heap.size + 1 + 1, 0, none⟩)] 72 (0, 0)) := below_at hb8 (by first | omega | (simp; done) | (simp; omega)) (by (repeat (first | (with_reducible assumption) | (with_reducible exact alloc_at _ _) | ((with_reducible apply alloc_at'); (simp; done)) | (with_reducible apply alloc_at_lt) | (with_reducible apply heap_drew_at) | (with_reducible apply heap_drewN_at) | (with_reducible apply heap_setCell_same) | ((with_reducible apply heap_set_ne); (first | omega | (dsimp only; omega) | (simp; done) | (simp; omega))) | (with_reducible apply setRow_at) | ((with_reducible apply setRow_ne); (first | omega | (dsimp only; omega) | (simp; done) | (simp; omega))))))
          have B8 : Below w.heap.size w w8 := Below.trans (by repeat (first | with_reducible assumption | with_reducible exact Below.refl _ _ | with_reducible refine Below.drew ?_ | with_reducible refine below_drewN ?_ _ | with_reducible refine below_alloc ?_ _ | with_reducible refine Below.alloc ?_ (by first | omega | (simp; done) | (simp; omega)) _ | with_reducible refine Below.setCell ?_ (by first | omega | (simp; done) | (simp; omega)) _ | with_reducible refine below_setRow ?_ (by first | omega | (simp; done) | (simp; omega)) _)) (hb8.mono (by first | omega | (simp; done) | (simp; omega)))
          clear hb8 N_7 P_7 Q_7 R_7 S_7
          clear Nc0 Nc1 Nc2 Ncf
          clear Pc0 Pcf
          clear Qc0 Qcf
          clear Rc0 Rc1 Rcf
          clear Sc0 Sc1 Scf
          have Nc0 : w8.cell? ⟨w.heap.size, 0, none⟩ = some (.int .u64 a1) := (blk_cell N_8 0).trans rfl
          have Nc1 : w8.cell? ⟨w.heap.size, 1, none⟩ = some (.int .u64 b1) := (blk_cell N_8 1).trans rfl
          have Nc2 : w8.cell? ⟨w.heap.size, 2, none⟩ = some (.int .u64 c1) := (blk_cell N_8 2).trans rfl
          have Ncf := blk_free N_8
          have Pc0 : w8.cell? ⟨w.heap.size + 1, 0, none⟩ = some (.int .u64 p1) := (blk_cell P_8 0).trans rfl
          have Pcf := blk_free P_8
          have Qc0 : w8.cell? ⟨w.heap.size + 1 + 1, 0, none⟩ = some (.int .u64 q) := (blk_cell Q_8 0).trans rfl
          have Qcf := blk_free Q_8
          have Rc0 : w8.cell? ⟨w.heap.size + 1 + 1 + 1, 0, none⟩ = some (.int .u64 0) := (blk_cell R_8 0).trans rfl
          have Rc1 : w8.cell? ⟨w.heap.size + 1 + 1 + 1, 1, none⟩ = some (.int .u64 0) := (blk_cell R_8 1).trans rfl
          have Rcf := blk_free R_8
          have Sc0 : w8.cell? ⟨w.heap.size + 1 + 1 + 1 + 1, 0, none⟩ = some (.pointer (some ⟨w.heap.size + 1, 0, none⟩)) := (blk_cell S_8 0).trans rfl
          have Sc1 : w8.cell? ⟨w.heap.size + 1 + 1 + 1 + 1, 1, none⟩ = some (.pointer (some ⟨w.heap.size + 1 + 1, 0, none⟩)) := (blk_cell S_8 1).trans rfl
          have Scf := blk_free S_8
          have Nl8 : w.heap.size < w8.heap.size := by omega
          have Pl8 : w.heap.size + 1 < w8.heap.size := by omega
          have Ql8 : w.heap.size + 1 + 1 < w8.heap.size := by omega
          have Rl8 : w.heap.size + 1 + 1 + 1 < w8.heap.size := by omega
          have Sl8 : w.heap.size + 1 + 1 + 1 + 1 < w8.heap.size := by omega
          have hq_q1 := E2.out
          go_wp2_with fail
          clear hq_q1
          rw [rounds_succ]
          go_wp2_with fail
          refine (HM.out _).mono ?_
          rintro e wz ⟨rfl, rfl⟩
          go_wp2
          refine ret_row2 rfl (w.heap.size + 1 + 1 + 1) #[.int .u64 0, .int .u64 1] 24 _ rfl Try.underlying24 rfl infoR rfl (by apply Exists.intro; refine ⟨?_, ?_⟩; (focus ((repeat (first | (with_reducible assumption) | (with_reducible exact alloc_at _ _) | ((with_reducible apply alloc_at'); (simp; done)) | (with_reducible apply alloc_at_lt) | (with_reducible apply heap_drew_at) | (with_reducible apply heap_drewN_at) | (with_reducible apply heap_setCell_same) | ((with_reducible apply heap_set_ne); (first | omega | (dsimp only; omega) | (simp; done) | (simp; omega))) | (with_reducible apply setRow_at) | ((with_reducible apply setRow_ne); (first | omega | (dsimp only; omega) | (simp; done) | (simp; omega))))))); simp) ⟨rfl, (by repeat (first | with_reducible assumption | with_reducible exact Below.refl _ _ | with_reducible refine Below.drew ?_ | with_reducible refine below_drewN ?_ _ | with_reducible refine below_alloc ?_ _ | with_reducible refine Below.alloc ?_ (by first | omega | (simp; done) | (simp; omega)) _ | with_reducible refine Below.setCell ?_ (by first | omega | (simp; done) | (simp; omega)) _ | with_reducible refine below_setRow ?_ (by first | omega | (simp; done) | (simp; omega)) _))⟩
set_option maxRecDepth 100000 in
set_option maxHeartbeats 4000000 in
theorem over_e (a b c p q r1 g1 a1 b1 c1 v1 p1 r2 g2 a2 b2 c2 v2 q1 h l u0 u1 u2 u3 u4 u5 : Int) (w : World) (bp : 0 ≤ p) (bg1 : 1 ≤ g1) (bq : 0 ≤ q) (bg2 : 1 ≤ g2) (bp1 : 0 ≤ p1) (bp2 : p1 ≤ 18446744073709551615) (bq1 : 0 ≤ q1) (bq2 : q1 ≤ 18446744073709551615) (hs : (a2 != 0) = false) (ht : (b2 != 0) = false) (hh : (h != 0) = false) (hc : (c2 == 0) = false) (HL : Hid (∀ W, Calls Try.prog 21 #[.int .u64 c2, .int .u64 l] W fun e w' => e = .returned (.agg #[.int .u64 c2, .int .u64 l]) ∧ Below W.heap.size W w'))
    (D1 : Hid (∀ W, Calls Try.prog 44 #[.agg #[.int .u64 a, .int .u64 b, .int .u64 c], .int .u64 p] W fun e w' => e = .returned (.tuple #[.agg #[.int .u64 u0, .int .u64 u1, .int .u64 u2], .int .u64 r1]) ∧ Below W.heap.size W w')) (G1 : Hid (∀ W, Calls Try.prog 32 #[.int .u64 p, .int .u64 r1] W fun e w' => e = .returned (.int .u64 g1) ∧ Below W.heap.size W w')) (D2 : Hid (∀ W, Calls Try.prog 44 #[.agg #[.int .u64 a, .int .u64 b, .int .u64 c], .int .u64 g1] W fun e w' => e = .returned (.tuple #[.agg #[.int .u64 a1, .int .u64 b1, .int .u64 c1], .int .u64 v1]) ∧ Below W.heap.size W w')) (E1 : Hid (IntKind.u64.wrap (p.tdiv g1) = p1))
    (D3 : Hid (∀ W, Calls Try.prog 44 #[.agg #[.int .u64 a1, .int .u64 b1, .int .u64 c1], .int .u64 q] W fun e w' => e = .returned (.tuple #[.agg #[.int .u64 u3, .int .u64 u4, .int .u64 u5], .int .u64 r2]) ∧ Below W.heap.size W w')) (G2 : Hid (∀ W, Calls Try.prog 32 #[.int .u64 q, .int .u64 r2] W fun e w' => e = .returned (.int .u64 g2) ∧ Below W.heap.size W w')) (D4 : Hid (∀ W, Calls Try.prog 44 #[.agg #[.int .u64 a1, .int .u64 b1, .int .u64 c1], .int .u64 g2] W fun e w' => e = .returned (.tuple #[.agg #[.int .u64 a2, .int .u64 b2, .int .u64 c2], .int .u64 v2]) ∧ Below W.heap.size W w')) (E2 : Hid (IntKind.u64.wrap (q.tdiv g2) = q1))
    (HM : Hid (∀ W, Calls Try.prog 22 #[.int .u64 p1, .int .u64 q1] W fun e w' => e = .returned (.tuple #[.int .u64 h, .int .u64 l]) ∧ W = w')) :
    Calls Try.prog 38 #[.agg #[.int .u64 a, .int .u64 b, .int .u64 c], .int .u64 p, .int .u64 q] w fun e w' => e = .returned (.tuple #[.agg #[.int .u64 c2, .int .u64 l], .int .i64 0]) ∧ Below w.heap.size w w' := by
  go_enter Try.func38, Try.ntmps38
  go_wp2_with fail
  refine wp_loop_rounds 3 ?_
  rw [rounds_succ]
  go_upto_region 3 with fail
  go_cut [9] (fun s wx => s = .pointer (some ⟨w.heap.size + 1, 0, none⟩) ∧ Below w.heap.size w wx ∧ wx.heap[w.heap.size]? = some (.cells #[.int .u64 a, .int .u64 b, .int .u64 c] 63 (0, 0)) ∧ wx.heap[w.heap.size + 1]? = some (.cells #[.int .u64 p] 22 (0, 0)) ∧ wx.heap[w.heap.size + 1 + 1]? = some (.cells #[.int .u64 q] 22 (0, 0)) ∧ wx.heap[w.heap.size + 1 + 1 + 1]? = some (.cells #[.int .u64 0, .int .u64 0] 24 (0, 0)) ∧ wx.heap[w.heap.size + 1 + 1 + 1 + 1]? = some (.cells #[.pointer (some ⟨w.heap.size + 1, 0, none⟩), .pointer (some ⟨w.heap.size + 1 + 1, 0, none⟩)] 72 (0, 0)))
  case first =>
    go_wp2
    go_meet
    exact ⟨rfl, (by repeat (first | with_reducible assumption | with_reducible exact Below.refl _ _ | with_reducible refine Below.drew ?_ | with_reducible refine below_drewN ?_ _ | with_reducible refine below_alloc ?_ _ | with_reducible refine Below.alloc ?_ (by first | omega | (simp; done) | (simp; omega)) _ | with_reducible refine Below.setCell ?_ (by first | omega | (simp; done) | (simp; omega)) _ | with_reducible refine below_setRow ?_ (by first | omega | (simp; done) | (simp; omega)) _)), (at_of (by apply Exists.intro; refine ⟨?_, ?_⟩; (focus ((repeat (first | (with_reducible assumption) | (with_reducible exact alloc_at _ _) | ((with_reducible apply alloc_at'); (simp; done)) | (with_reducible apply alloc_at_lt) | (with_reducible apply heap_drew_at) | (with_reducible apply heap_drewN_at) | (with_reducible apply heap_setCell_same) | ((with_reducible apply heap_set_ne); (first | omega | (dsimp only; omega) | (simp; done) | (simp; omega))) | (with_reducible apply setRow_at) | ((with_reducible apply setRow_ne); (first | omega | (dsimp only; omega) | (simp; done) | (simp; omega))))))); simp)), (at_of (by apply Exists.intro; refine ⟨?_, ?_⟩; (focus ((repeat (first | (with_reducible assumption) | (with_reducible exact alloc_at _ _) | ((with_reducible apply alloc_at'); (simp; done)) | (with_reducible apply alloc_at_lt) | (with_reducible apply heap_drew_at) | (with_reducible apply heap_drewN_at) | (with_reducible apply heap_setCell_same) | ((with_reducible apply heap_set_ne); (first | omega | (dsimp only; omega) | (simp; done) | (simp; omega))) | (with_reducible apply setRow_at) | ((with_reducible apply setRow_ne); (first | omega | (dsimp only; omega) | (simp; done) | (simp; omega))))))); simp)), (at_of (by apply Exists.intro; refine ⟨?_, ?_⟩; (focus ((repeat (first | (with_reducible assumption) | (with_reducible exact alloc_at _ _) | ((with_reducible apply alloc_at'); (simp; done)) | (with_reducible apply alloc_at_lt) | (with_reducible apply heap_drew_at) | (with_reducible apply heap_drewN_at) | (with_reducible apply heap_setCell_same) | ((with_reducible apply heap_set_ne); (first | omega | (dsimp only; omega) | (simp; done) | (simp; omega))) | (with_reducible apply setRow_at) | ((with_reducible apply setRow_ne); (first | omega | (dsimp only; omega) | (simp; done) | (simp; omega))))))); simp)), (at_of (by apply Exists.intro; refine ⟨?_, ?_⟩; (focus ((repeat (first | (with_reducible assumption) | (with_reducible exact alloc_at _ _) | ((with_reducible apply alloc_at'); (simp; done)) | (with_reducible apply alloc_at_lt) | (with_reducible apply heap_drew_at) | (with_reducible apply heap_drewN_at) | (with_reducible apply heap_setCell_same) | ((with_reducible apply heap_set_ne); (first | omega | (dsimp only; omega) | (simp; done) | (simp; omega))) | (with_reducible apply setRow_at) | ((with_reducible apply setRow_ne); (first | omega | (dsimp only; omega) | (simp; done) | (simp; omega))))))); simp)), (at_of (by apply Exists.intro; refine ⟨?_, ?_⟩; (focus ((repeat (first | (with_reducible assumption) | (with_reducible exact alloc_at _ _) | ((with_reducible apply alloc_at'); (simp; done)) | (with_reducible apply alloc_at_lt) | (with_reducible apply heap_drew_at) | (with_reducible apply heap_drewN_at) | (with_reducible apply heap_setCell_same) | ((with_reducible apply heap_set_ne); (first | omega | (dsimp only; omega) | (simp; done) | (simp; omega))) | (with_reducible apply setRow_at) | ((with_reducible apply setRow_ne); (first | omega | (dsimp only; omega) | (simp; done) | (simp; omega))))))); simp))⟩
  case rest =>
    obtain ⟨rfl, B1, N_1, P_1, Q_1, R_1, S_1⟩ := hcut
    obtain ⟨w1, rfl⟩ : ∃ x : World, x = wc := ⟨_, rfl⟩
    have Nc0 : w1.cell? ⟨w.heap.size, 0, none⟩ = some (.int .u64 a) := (blk_cell N_1 0).trans rfl
    have Nc1 : w1.cell? ⟨w.heap.size, 1, none⟩ = some (.int .u64 b) := (blk_cell N_1 1).trans rfl
    have Nc2 : w1.cell? ⟨w.heap.size, 2, none⟩ = some (.int .u64 c) := (blk_cell N_1 2).trans rfl
    have Ncf := blk_free N_1
    have Pc0 : w1.cell? ⟨w.heap.size + 1, 0, none⟩ = some (.int .u64 p) := (blk_cell P_1 0).trans rfl
    have Pcf := blk_free P_1
    have Qc0 : w1.cell? ⟨w.heap.size + 1 + 1, 0, none⟩ = some (.int .u64 q) := (blk_cell Q_1 0).trans rfl
    have Qcf := blk_free Q_1
    have Rc0 : w1.cell? ⟨w.heap.size + 1 + 1 + 1, 0, none⟩ = some (.int .u64 0) := (blk_cell R_1 0).trans rfl
    have Rc1 : w1.cell? ⟨w.heap.size + 1 + 1 + 1, 1, none⟩ = some (.int .u64 0) := (blk_cell R_1 1).trans rfl
    have Rcf := blk_free R_1
    have Sc0 : w1.cell? ⟨w.heap.size + 1 + 1 + 1 + 1, 0, none⟩ = some (.pointer (some ⟨w.heap.size + 1, 0, none⟩)) := (blk_cell S_1 0).trans rfl
    have Sc1 : w1.cell? ⟨w.heap.size + 1 + 1 + 1 + 1, 1, none⟩ = some (.pointer (some ⟨w.heap.size + 1 + 1, 0, none⟩)) := (blk_cell S_1 1).trans rfl
    have Scf := blk_free S_1
    have Nl1 : w.heap.size < w1.heap.size := lt_of_at N_1
    have Pl1 : w.heap.size + 1 < w1.heap.size := lt_of_at P_1
    have Ql1 : w.heap.size + 1 + 1 < w1.heap.size := lt_of_at Q_1
    have Rl1 : w.heap.size + 1 + 1 + 1 < w1.heap.size := lt_of_at R_1
    have Sl1 : w.heap.size + 1 + 1 + 1 + 1 < w1.heap.size := lt_of_at S_1
    go_upto_region 4 with fail
    go_cut [11] (fun s0_ wx => s0_ = .int .u64 r1 ∧ Below w1.heap.size w1 wx)
    case first =>
      go_region_held3 (fun w' => Below w1.heap.size w1 w' ∧ (∀ b o, b < w1.heap.size → w'.cell? ⟨b, o, none⟩ = w1.cell? ⟨b, o, none⟩) ∧ ∀ b o, b < w1.heap.size → w'.frozen? ⟨b, o, none⟩ = w1.frozen? ⟨b, o, none⟩) (first | ((try go_split_ands); (try dsimp only); refine same_of ?_; (repeat (first | with_reducible assumption | with_reducible exact Below.refl _ _ | with_reducible refine Below.drew ?_ | with_reducible refine below_drewN ?_ _ | with_reducible refine below_alloc ?_ _ | with_reducible refine Below.alloc ?_ (by first | omega | (simp; done) | (simp; omega)) _ | with_reducible refine Below.setCell ?_ (by first | omega | (simp; done) | (simp; omega)) _ | with_reducible refine below_setRow ?_ (by first | omega | (simp; done) | (simp; omega)) _)); done) | ((try go_split_ands); (try dsimp only); refine same_of ?_; (repeat (first | with_reducible refine below_call ?_ hb99 | with_reducible assumption | with_reducible exact Below.refl _ _ | with_reducible refine Below.drew ?_ | with_reducible refine below_alloc ?_ _)); done)) (first | (go_at_call 44; refine (D1.out _).mono ?_; rintro e w99 ⟨rfl, hb99⟩; obtain ⟨hc99, hf99⟩ := bcell hb99))
      all_goals
        obtain ⟨hb98, -, -⟩ : Below w1.heap.size w1 _ ∧ _ ∧ _ := by assumption
        go_wp2_with fail
        go_meet
        exact ⟨by first | rfl | (simp; done) | (simp; omega), hb98⟩
    case rest =>
      obtain ⟨rfl, hb2⟩ := hcut
      obtain ⟨w2, rfl⟩ : ∃ x : World, x = wc := ⟨_, rfl⟩
      have hs2 := hb2.size
      try simp only [World.size_alloc, World.size_setCell] at hs2
      have N_2 : w2.heap[w.heap.size]? = some (.cells #[.int .u64 a, .int .u64 b, .int .u64 c] 63 (0, 0)) := below_at hb2 (by first | omega | (simp; done) | (simp; omega)) (by (repeat (first | (with_reducible assumption) | (with_reducible exact alloc_at _ _) | ((with_reducible apply alloc_at'); (simp; done)) | (with_reducible apply alloc_at_lt) | (with_reducible apply heap_drew_at) | (with_reducible apply heap_drewN_at) | (with_reducible apply heap_setCell_same) | ((with_reducible apply heap_set_ne); (first | omega | (dsimp only; omega) | (simp; done) | (simp; omega))) | (with_reducible apply setRow_at) | ((with_reducible apply setRow_ne); (first | omega | (dsimp only; omega) | (simp; done) | (simp; omega))))))
      have P_2 : w2.heap[w.heap.size + 1]? = some (.cells #[.int .u64 p] 22 (0, 0)) := below_at hb2 (by first | omega | (simp; done) | (simp; omega)) (by (repeat (first | (with_reducible assumption) | (with_reducible exact alloc_at _ _) | ((with_reducible apply alloc_at'); (simp; done)) | (with_reducible apply alloc_at_lt) | (with_reducible apply heap_drew_at) | (with_reducible apply heap_drewN_at) | (with_reducible apply heap_setCell_same) | ((with_reducible apply heap_set_ne); (first | omega | (dsimp only; omega) | (simp; done) | (simp; omega))) | (with_reducible apply setRow_at) | ((with_reducible apply setRow_ne); (first | omega | (dsimp only; omega) | (simp; done) | (simp; omega))))))
      have Q_2 : w2.heap[w.heap.size + 1 + 1]? = some (.cells #[.int .u64 q] 22 (0, 0)) := below_at hb2 (by first | omega | (simp; done) | (simp; omega)) (by (repeat (first | (with_reducible assumption) | (with_reducible exact alloc_at _ _) | ((with_reducible apply alloc_at'); (simp; done)) | (with_reducible apply alloc_at_lt) | (with_reducible apply heap_drew_at) | (with_reducible apply heap_drewN_at) | (with_reducible apply heap_setCell_same) | ((with_reducible apply heap_set_ne); (first | omega | (dsimp only; omega) | (simp; done) | (simp; omega))) | (with_reducible apply setRow_at) | ((with_reducible apply setRow_ne); (first | omega | (dsimp only; omega) | (simp; done) | (simp; omega))))))
      have R_2 : w2.heap[w.heap.size + 1 + 1 + 1]? = some (.cells #[.int .u64 0, .int .u64 0] 24 (0, 0)) := below_at hb2 (by first | omega | (simp; done) | (simp; omega)) (by (repeat (first | (with_reducible assumption) | (with_reducible exact alloc_at _ _) | ((with_reducible apply alloc_at'); (simp; done)) | (with_reducible apply alloc_at_lt) | (with_reducible apply heap_drew_at) | (with_reducible apply heap_drewN_at) | (with_reducible apply heap_setCell_same) | ((with_reducible apply heap_set_ne); (first | omega | (dsimp only; omega) | (simp; done) | (simp; omega))) | (with_reducible apply setRow_at) | ((with_reducible apply setRow_ne); (first | omega | (dsimp only; omega) | (simp; done) | (simp; omega))))))
      have S_2 : w2.heap[w.heap.size + 1 + 1 + 1 + 1]? = some (.cells #[.pointer (some ⟨w.heap.size + 1, 0, none⟩), .pointer (some ⟨w.heap.size + 1 + 1, 0, none⟩)] 72 (0, 0)) := below_at hb2 (by first | omega | (simp; done) | (simp; omega)) (by (repeat (first | (with_reducible assumption) | (with_reducible exact alloc_at _ _) | ((with_reducible apply alloc_at'); (simp; done)) | (with_reducible apply alloc_at_lt) | (with_reducible apply heap_drew_at) | (with_reducible apply heap_drewN_at) | (with_reducible apply heap_setCell_same) | ((with_reducible apply heap_set_ne); (first | omega | (dsimp only; omega) | (simp; done) | (simp; omega))) | (with_reducible apply setRow_at) | ((with_reducible apply setRow_ne); (first | omega | (dsimp only; omega) | (simp; done) | (simp; omega))))))
      have B2 : Below w.heap.size w w2 := Below.trans (by repeat (first | with_reducible assumption | with_reducible exact Below.refl _ _ | with_reducible refine Below.drew ?_ | with_reducible refine below_drewN ?_ _ | with_reducible refine below_alloc ?_ _ | with_reducible refine Below.alloc ?_ (by first | omega | (simp; done) | (simp; omega)) _ | with_reducible refine Below.setCell ?_ (by first | omega | (simp; done) | (simp; omega)) _ | with_reducible refine below_setRow ?_ (by first | omega | (simp; done) | (simp; omega)) _)) (hb2.mono (by first | omega | (simp; done) | (simp; omega)))
      clear hb2 N_1 P_1 Q_1 R_1 S_1
      clear Nc0 Nc1 Nc2 Ncf
      clear Pc0 Pcf
      clear Qc0 Qcf
      clear Rc0 Rc1 Rcf
      clear Sc0 Sc1 Scf
      have Nc0 : w2.cell? ⟨w.heap.size, 0, none⟩ = some (.int .u64 a) := (blk_cell N_2 0).trans rfl
      have Nc1 : w2.cell? ⟨w.heap.size, 1, none⟩ = some (.int .u64 b) := (blk_cell N_2 1).trans rfl
      have Nc2 : w2.cell? ⟨w.heap.size, 2, none⟩ = some (.int .u64 c) := (blk_cell N_2 2).trans rfl
      have Ncf := blk_free N_2
      have Pc0 : w2.cell? ⟨w.heap.size + 1, 0, none⟩ = some (.int .u64 p) := (blk_cell P_2 0).trans rfl
      have Pcf := blk_free P_2
      have Qc0 : w2.cell? ⟨w.heap.size + 1 + 1, 0, none⟩ = some (.int .u64 q) := (blk_cell Q_2 0).trans rfl
      have Qcf := blk_free Q_2
      have Rc0 : w2.cell? ⟨w.heap.size + 1 + 1 + 1, 0, none⟩ = some (.int .u64 0) := (blk_cell R_2 0).trans rfl
      have Rc1 : w2.cell? ⟨w.heap.size + 1 + 1 + 1, 1, none⟩ = some (.int .u64 0) := (blk_cell R_2 1).trans rfl
      have Rcf := blk_free R_2
      have Sc0 : w2.cell? ⟨w.heap.size + 1 + 1 + 1 + 1, 0, none⟩ = some (.pointer (some ⟨w.heap.size + 1, 0, none⟩)) := (blk_cell S_2 0).trans rfl
      have Sc1 : w2.cell? ⟨w.heap.size + 1 + 1 + 1 + 1, 1, none⟩ = some (.pointer (some ⟨w.heap.size + 1 + 1, 0, none⟩)) := (blk_cell S_2 1).trans rfl
      have Scf := blk_free S_2
      have Nl2 : w.heap.size < w2.heap.size := by omega
      have Pl2 : w.heap.size + 1 < w2.heap.size := by omega
      have Ql2 : w.heap.size + 1 + 1 < w2.heap.size := by omega
      have Rl2 : w.heap.size + 1 + 1 + 1 < w2.heap.size := by omega
      have Sl2 : w.heap.size + 1 + 1 + 1 + 1 < w2.heap.size := by omega
      go_wp2_with fail
      refine (G1.out _).mono ?_
      rintro e w3 ⟨rfl, hb3⟩
      have hs3 := hb3.size
      try simp only [World.size_alloc, World.size_setCell] at hs3
      have N_3 : w3.heap[w.heap.size]? = some (.cells #[.int .u64 a, .int .u64 b, .int .u64 c] 63 (0, 0)) := below_at hb3 (by first | omega | (simp; done) | (simp; omega)) (by (repeat (first | (with_reducible assumption) | (with_reducible exact alloc_at _ _) | ((with_reducible apply alloc_at'); (simp; done)) | (with_reducible apply alloc_at_lt) | (with_reducible apply heap_drew_at) | (with_reducible apply heap_drewN_at) | (with_reducible apply heap_setCell_same) | ((with_reducible apply heap_set_ne); (first | omega | (dsimp only; omega) | (simp; done) | (simp; omega))) | (with_reducible apply setRow_at) | ((with_reducible apply setRow_ne); (first | omega | (dsimp only; omega) | (simp; done) | (simp; omega))))))
      have P_3 : w3.heap[w.heap.size + 1]? = some (.cells #[.int .u64 p] 22 (0, 0)) := below_at hb3 (by first | omega | (simp; done) | (simp; omega)) (by (repeat (first | (with_reducible assumption) | (with_reducible exact alloc_at _ _) | ((with_reducible apply alloc_at'); (simp; done)) | (with_reducible apply alloc_at_lt) | (with_reducible apply heap_drew_at) | (with_reducible apply heap_drewN_at) | (with_reducible apply heap_setCell_same) | ((with_reducible apply heap_set_ne); (first | omega | (dsimp only; omega) | (simp; done) | (simp; omega))) | (with_reducible apply setRow_at) | ((with_reducible apply setRow_ne); (first | omega | (dsimp only; omega) | (simp; done) | (simp; omega))))))
      have Q_3 : w3.heap[w.heap.size + 1 + 1]? = some (.cells #[.int .u64 q] 22 (0, 0)) := below_at hb3 (by first | omega | (simp; done) | (simp; omega)) (by (repeat (first | (with_reducible assumption) | (with_reducible exact alloc_at _ _) | ((with_reducible apply alloc_at'); (simp; done)) | (with_reducible apply alloc_at_lt) | (with_reducible apply heap_drew_at) | (with_reducible apply heap_drewN_at) | (with_reducible apply heap_setCell_same) | ((with_reducible apply heap_set_ne); (first | omega | (dsimp only; omega) | (simp; done) | (simp; omega))) | (with_reducible apply setRow_at) | ((with_reducible apply setRow_ne); (first | omega | (dsimp only; omega) | (simp; done) | (simp; omega))))))
      have R_3 : w3.heap[w.heap.size + 1 + 1 + 1]? = some (.cells #[.int .u64 0, .int .u64 0] 24 (0, 0)) := below_at hb3 (by first | omega | (simp; done) | (simp; omega)) (by (repeat (first | (with_reducible assumption) | (with_reducible exact alloc_at _ _) | ((with_reducible apply alloc_at'); (simp; done)) | (with_reducible apply alloc_at_lt) | (with_reducible apply heap_drew_at) | (with_reducible apply heap_drewN_at) | (with_reducible apply heap_setCell_same) | ((with_reducible apply heap_set_ne); (first | omega | (dsimp only; omega) | (simp; done) | (simp; omega))) | (with_reducible apply setRow_at) | ((with_reducible apply setRow_ne); (first | omega | (dsimp only; omega) | (simp; done) | (simp; omega))))))
      have S_3 : w3.heap[w.heap.size + 1 + 1 + 1 + 1]? = some (.cells #[.pointer (some ⟨w.heap.size + 1, 0, none⟩), .pointer (some ⟨w.heap.size + 1 + 1, 0, none⟩)] 72 (0, 0)) := below_at hb3 (by first | omega | (simp; done) | (simp; omega)) (by (repeat (first | (with_reducible assumption) | (with_reducible exact alloc_at _ _) | ((with_reducible apply alloc_at'); (simp; done)) | (with_reducible apply alloc_at_lt) | (with_reducible apply heap_drew_at) | (with_reducible apply heap_drewN_at) | (with_reducible apply heap_setCell_same) | ((with_reducible apply heap_set_ne); (first | omega | (dsimp only; omega) | (simp; done) | (simp; omega))) | (with_reducible apply setRow_at) | ((with_reducible apply setRow_ne); (first | omega | (dsimp only; omega) | (simp; done) | (simp; omega))))))
      have B3 : Below w.heap.size w w3 := Below.trans (by repeat (first | with_reducible assumption | with_reducible exact Below.refl _ _ | with_reducible refine Below.drew ?_ | with_reducible refine below_drewN ?_ _ | with_reducible refine below_alloc ?_ _ | with_reducible refine Below.alloc ?_ (by first | omega | (simp; done) | (simp; omega)) _ | with_reducible refine Below.setCell ?_ (by first | omega | (simp; done) | (simp; omega)) _ | with_reducible refine below_setRow ?_ (by first | omega | (simp; done) | (simp; omega)) _)) (hb3.mono (by first | omega | (simp; done) | (simp; omega)))
      clear hb3 N_2 P_2 Q_2 R_2 S_2
      clear Nc0 Nc1 Nc2 Ncf
      clear Pc0 Pcf
      clear Qc0 Qcf
      clear Rc0 Rc1 Rcf
      clear Sc0 Sc1 Scf
      have Nc0 : w3.cell? ⟨w.heap.size, 0, none⟩ = some (.int .u64 a) := (blk_cell N_3 0).trans rfl
      have Nc1 : w3.cell? ⟨w.heap.size, 1, none⟩ = some (.int .u64 b) := (blk_cell N_3 1).trans rfl
      have Nc2 : w3.cell? ⟨w.heap.size, 2, none⟩ = some (.int .u64 c) := (blk_cell N_3 2).trans rfl
      have Ncf := blk_free N_3
      have Pc0 : w3.cell? ⟨w.heap.size + 1, 0, none⟩ = some (.int .u64 p) := (blk_cell P_3 0).trans rfl
      have Pcf := blk_free P_3
      have Qc0 : w3.cell? ⟨w.heap.size + 1 + 1, 0, none⟩ = some (.int .u64 q) := (blk_cell Q_3 0).trans rfl
      have Qcf := blk_free Q_3
      have Rc0 : w3.cell? ⟨w.heap.size + 1 + 1 + 1, 0, none⟩ = some (.int .u64 0) := (blk_cell R_3 0).trans rfl
      have Rc1 : w3.cell? ⟨w.heap.size + 1 + 1 + 1, 1, none⟩ = some (.int .u64 0) := (blk_cell R_3 1).trans rfl
      have Rcf := blk_free R_3
      have Sc0 : w3.cell? ⟨w.heap.size + 1 + 1 + 1 + 1, 0, none⟩ = some (.pointer (some ⟨w.heap.size + 1, 0, none⟩)) := (blk_cell S_3 0).trans rfl
      have Sc1 : w3.cell? ⟨w.heap.size + 1 + 1 + 1 + 1, 1, none⟩ = some (.pointer (some ⟨w.heap.size + 1 + 1, 0, none⟩)) := (blk_cell S_3 1).trans rfl
      have Scf := blk_free S_3
      have Nl3 : w.heap.size < w3.heap.size := by omega
      have Pl3 : w.heap.size + 1 < w3.heap.size := by omega
      have Ql3 : w.heap.size + 1 + 1 < w3.heap.size := by omega
      have Rl3 : w.heap.size + 1 + 1 + 1 < w3.heap.size := by omega
      have Sl3 : w.heap.size + 1 + 1 + 1 + 1 < w3.heap.size := by omega
      go_wp2_with fail
      refine (D2.out _).mono ?_
      rintro e w4 ⟨rfl, hb4⟩
      have hs4 := hb4.size
      try simp only [World.size_alloc, World.size_setCell] at hs4
      have N_4 : w4.heap[w.heap.size]? = some (.cells #[.int .u64 a, .int .u64 b, .int .u64 c] 63 (0, 0)) := below_at hb4 (by first | omega | (simp; done) | (simp; omega)) (by (repeat (first | (with_reducible assumption) | (with_reducible exact alloc_at _ _) | ((with_reducible apply alloc_at'); (simp; done)) | (with_reducible apply alloc_at_lt) | (with_reducible apply heap_drew_at) | (with_reducible apply heap_drewN_at) | (with_reducible apply heap_setCell_same) | ((with_reducible apply heap_set_ne); (first | omega | (dsimp only; omega) | (simp; done) | (simp; omega))) | (with_reducible apply setRow_at) | ((with_reducible apply setRow_ne); (first | omega | (dsimp only; omega) | (simp; done) | (simp; omega))))))
      have P_4 : w4.heap[w.heap.size + 1]? = some (.cells #[.int .u64 p] 22 (0, 0)) := below_at hb4 (by first | omega | (simp; done) | (simp; omega)) (by (repeat (first | (with_reducible assumption) | (with_reducible exact alloc_at _ _) | ((with_reducible apply alloc_at'); (simp; done)) | (with_reducible apply alloc_at_lt) | (with_reducible apply heap_drew_at) | (with_reducible apply heap_drewN_at) | (with_reducible apply heap_setCell_same) | ((with_reducible apply heap_set_ne); (first | omega | (dsimp only; omega) | (simp; done) | (simp; omega))) | (with_reducible apply setRow_at) | ((with_reducible apply setRow_ne); (first | omega | (dsimp only; omega) | (simp; done) | (simp; omega))))))
      have Q_4 : w4.heap[w.heap.size + 1 + 1]? = some (.cells #[.int .u64 q] 22 (0, 0)) := below_at hb4 (by first | omega | (simp; done) | (simp; omega)) (by (repeat (first | (with_reducible assumption) | (with_reducible exact alloc_at _ _) | ((with_reducible apply alloc_at'); (simp; done)) | (with_reducible apply alloc_at_lt) | (with_reducible apply heap_drew_at) | (with_reducible apply heap_drewN_at) | (with_reducible apply heap_setCell_same) | ((with_reducible apply heap_set_ne); (first | omega | (dsimp only; omega) | (simp; done) | (simp; omega))) | (with_reducible apply setRow_at) | ((with_reducible apply setRow_ne); (first | omega | (dsimp only; omega) | (simp; done) | (simp; omega))))))
      have R_4 : w4.heap[w.heap.size + 1 + 1 + 1]? = some (.cells #[.int .u64 0, .int .u64 0] 24 (0, 0)) := below_at hb4 (by first | omega | (simp; done) | (simp; omega)) (by (repeat (first | (with_reducible assumption) | (with_reducible exact alloc_at _ _) | ((with_reducible apply alloc_at'); (simp; done)) | (with_reducible apply alloc_at_lt) | (with_reducible apply heap_drew_at) | (with_reducible apply heap_drewN_at) | (with_reducible apply heap_setCell_same) | ((with_reducible apply heap_set_ne); (first | omega | (dsimp only; omega) | (simp; done) | (simp; omega))) | (with_reducible apply setRow_at) | ((with_reducible apply setRow_ne); (first | omega | (dsimp only; omega) | (simp; done) | (simp; omega))))))
      have S_4 : w4.heap[w.heap.size + 1 + 1 + 1 + 1]? = some (.cells #[.pointer (some ⟨w.heap.size + 1, 0, none⟩), .pointer (some ⟨w.heap.size + 1 + 1, 0, none⟩)] 72 (0, 0)) := below_at hb4 (by first | omega | (simp; done) | (simp; omega)) (by (repeat (first | (with_reducible assumption) | (with_reducible exact alloc_at _ _) | ((with_reducible apply alloc_at'); (simp; done)) | (with_reducible apply alloc_at_lt) | (with_reducible apply heap_drew_at) | (with_reducible apply heap_drewN_at) | (with_reducible apply heap_setCell_same) | ((with_reducible apply heap_set_ne); (first | omega | (dsimp only; omega) | (simp; done) | (simp; omega))) | (with_reducible apply setRow_at) | ((with_reducible apply setRow_ne); (first | omega | (dsimp only; omega) | (simp; done) | (simp; omega))))))
      have B4 : Below w.heap.size w w4 := Below.trans (by repeat (first | with_reducible assumption | with_reducible exact Below.refl _ _ | with_reducible refine Below.drew ?_ | with_reducible refine below_drewN ?_ _ | with_reducible refine below_alloc ?_ _ | with_reducible refine Below.alloc ?_ (by first | omega | (simp; done) | (simp; omega)) _ | with_reducible refine Below.setCell ?_ (by first | omega | (simp; done) | (simp; omega)) _ | with_reducible refine below_setRow ?_ (by first | omega | (simp; done) | (simp; omega)) _)) (hb4.mono (by first | omega | (simp; done) | (simp; omega)))
      clear hb4 N_3 P_3 Q_3 R_3 S_3
      clear Nc0 Nc1 Nc2 Ncf
      clear Pc0 Pcf
      clear Qc0 Qcf
      clear Rc0 Rc1 Rcf
      clear Sc0 Sc1 Scf
      have Nc0 : w4.cell? ⟨w.heap.size, 0, none⟩ = some (.int .u64 a) := (blk_cell N_4 0).trans rfl
      have Nc1 : w4.cell? ⟨w.heap.size, 1, none⟩ = some (.int .u64 b) := (blk_cell N_4 1).trans rfl
      have Nc2 : w4.cell? ⟨w.heap.size, 2, none⟩ = some (.int .u64 c) := (blk_cell N_4 2).trans rfl
      have Ncf := blk_free N_4
      have Pc0 : w4.cell? ⟨w.heap.size + 1, 0, none⟩ = some (.int .u64 p) := (blk_cell P_4 0).trans rfl
      have Pcf := blk_free P_4
      have Qc0 : w4.cell? ⟨w.heap.size + 1 + 1, 0, none⟩ = some (.int .u64 q) := (blk_cell Q_4 0).trans rfl
      have Qcf := blk_free Q_4
      have Rc0 : w4.cell? ⟨w.heap.size + 1 + 1 + 1, 0, none⟩ = some (.int .u64 0) := (blk_cell R_4 0).trans rfl
      have Rc1 : w4.cell? ⟨w.heap.size + 1 + 1 + 1, 1, none⟩ = some (.int .u64 0) := (blk_cell R_4 1).trans rfl
      have Rcf := blk_free R_4
      have Sc0 : w4.cell? ⟨w.heap.size + 1 + 1 + 1 + 1, 0, none⟩ = some (.pointer (some ⟨w.heap.size + 1, 0, none⟩)) := (blk_cell S_4 0).trans rfl
      have Sc1 : w4.cell? ⟨w.heap.size + 1 + 1 + 1 + 1, 1, none⟩ = some (.pointer (some ⟨w.heap.size + 1 + 1, 0, none⟩)) := (blk_cell S_4 1).trans rfl
      have Scf := blk_free S_4
      have Nl4 : w.heap.size < w4.heap.size := by omega
      have Pl4 : w.heap.size + 1 < w4.heap.size := by omega
      have Ql4 : w.heap.size + 1 + 1 < w4.heap.size := by omega
      have Rl4 : w.heap.size + 1 + 1 + 1 < w4.heap.size := by omega
      have Sl4 : w.heap.size + 1 + 1 + 1 + 1 < w4.heap.size := by omega
      have hq_p1 := E1.out
      go_wp2_with fail
      clear hq_p1
      rw [rounds_succ]
      go_upto_region 3 with fail
      go_cut [9] (fun s wx => s = .pointer (some ⟨w.heap.size + 1 + 1, 0, none⟩) ∧ Below w.heap.size w wx ∧ wx.heap[w.heap.size]? = some (.cells #[.int .u64 a1, .int .u64 b1, .int .u64 c1] 63 (0, 0)) ∧ wx.heap[w.heap.size + 1]? = some (.cells #[.int .u64 p1] 22 (0, 0)) ∧ wx.heap[w.heap.size + 1 + 1]? = some (.cells #[.int .u64 q] 22 (0, 0)) ∧ wx.heap[w.heap.size + 1 + 1 + 1]? = some (.cells #[.int .u64 0, .int .u64 0] 24 (0, 0)) ∧ wx.heap[w.heap.size + 1 + 1 + 1 + 1]? = some (.cells #[.pointer (some ⟨w.heap.size + 1, 0, none⟩), .pointer (some ⟨w.heap.size + 1 + 1, 0, none⟩)] 72 (0, 0)))
      case first =>
        go_wp2
        go_meet
        exact ⟨rfl, (by repeat (first | with_reducible assumption | with_reducible exact Below.refl _ _ | with_reducible refine Below.drew ?_ | with_reducible refine below_drewN ?_ _ | with_reducible refine below_alloc ?_ _ | with_reducible refine Below.alloc ?_ (by first | omega | (simp; done) | (simp; omega)) _ | with_reducible refine Below.setCell ?_ (by first | omega | (simp; done) | (simp; omega)) _ | with_reducible refine below_setRow ?_ (by first | omega | (simp; done) | (simp; omega)) _)), (at_of (by apply Exists.intro; refine ⟨?_, ?_⟩; (focus ((repeat (first | (with_reducible assumption) | (with_reducible exact alloc_at _ _) | ((with_reducible apply alloc_at'); (simp; done)) | (with_reducible apply alloc_at_lt) | (with_reducible apply heap_drew_at) | (with_reducible apply heap_drewN_at) | (with_reducible apply heap_setCell_same) | ((with_reducible apply heap_set_ne); (first | omega | (dsimp only; omega) | (simp; done) | (simp; omega))) | (with_reducible apply setRow_at) | ((with_reducible apply setRow_ne); (first | omega | (dsimp only; omega) | (simp; done) | (simp; omega))))))); simp)), (at_of (by apply Exists.intro; refine ⟨?_, ?_⟩; (focus ((repeat (first | (with_reducible assumption) | (with_reducible exact alloc_at _ _) | ((with_reducible apply alloc_at'); (simp; done)) | (with_reducible apply alloc_at_lt) | (with_reducible apply heap_drew_at) | (with_reducible apply heap_drewN_at) | (with_reducible apply heap_setCell_same) | ((with_reducible apply heap_set_ne); (first | omega | (dsimp only; omega) | (simp; done) | (simp; omega))) | (with_reducible apply setRow_at) | ((with_reducible apply setRow_ne); (first | omega | (dsimp only; omega) | (simp; done) | (simp; omega))))))); simp)), (at_of (by apply Exists.intro; refine ⟨?_, ?_⟩; (focus ((repeat (first | (with_reducible assumption) | (with_reducible exact alloc_at _ _) | ((with_reducible apply alloc_at'); (simp; done)) | (with_reducible apply alloc_at_lt) | (with_reducible apply heap_drew_at) | (with_reducible apply heap_drewN_at) | (with_reducible apply heap_setCell_same) | ((with_reducible apply heap_set_ne); (first | omega | (dsimp only; omega) | (simp; done) | (simp; omega))) | (with_reducible apply setRow_at) | ((with_reducible apply setRow_ne); (first | omega | (dsimp only; omega) | (simp; done) | (simp; omega))))))); simp)), (at_of (by apply Exists.intro; refine ⟨?_, ?_⟩; (focus ((repeat (first | (with_reducible assumption) | (with_reducible exact alloc_at _ _) | ((with_reducible apply alloc_at'); (simp; done)) | (with_reducible apply alloc_at_lt) | (with_reducible apply heap_drew_at) | (with_reducible apply heap_drewN_at) | (with_reducible apply heap_setCell_same) | ((with_reducible apply heap_set_ne); (first | omega | (dsimp only; omega) | (simp; done) | (simp; omega))) | (with_reducible apply setRow_at) | ((with_reducible apply setRow_ne); (first | omega | (dsimp only; omega) | (simp; done) | (simp; omega))))))); simp)), (at_of (by apply Exists.intro; refine ⟨?_, ?_⟩; (focus ((repeat (first | (with_reducible assumption) | (with_reducible exact alloc_at _ _) | ((with_reducible apply alloc_at'); (simp; done)) | (with_reducible apply alloc_at_lt) | (with_reducible apply heap_drew_at) | (with_reducible apply heap_drewN_at) | (with_reducible apply heap_setCell_same) | ((with_reducible apply heap_set_ne); (first | omega | (dsimp only; omega) | (simp; done) | (simp; omega))) | (with_reducible apply setRow_at) | ((with_reducible apply setRow_ne); (first | omega | (dsimp only; omega) | (simp; done) | (simp; omega))))))); simp))⟩
      case rest =>
        obtain ⟨rfl, B5, N_5, P_5, Q_5, R_5, S_5⟩ := hcut
        obtain ⟨w5, rfl⟩ : ∃ x : World, x = wc := ⟨_, rfl⟩
        clear N_4
        clear P_4
        clear Q_4
        clear R_4
        clear S_4
        clear Nc0 Nc1 Nc2 Ncf
        clear Pc0 Pcf
        clear Qc0 Qcf
        clear Rc0 Rc1 Rcf
        clear Sc0 Sc1 Scf
        have Nc0 : w5.cell? ⟨w.heap.size, 0, none⟩ = some (.int .u64 a1) := (blk_cell N_5 0).trans rfl
        have Nc1 : w5.cell? ⟨w.heap.size, 1, none⟩ = some (.int .u64 b1) := (blk_cell N_5 1).trans rfl
        have Nc2 : w5.cell? ⟨w.heap.size, 2, none⟩ = some (.int .u64 c1) := (blk_cell N_5 2).trans rfl
        have Ncf := blk_free N_5
        have Pc0 : w5.cell? ⟨w.heap.size + 1, 0, none⟩ = some (.int .u64 p1) := (blk_cell P_5 0).trans rfl
        have Pcf := blk_free P_5
        have Qc0 : w5.cell? ⟨w.heap.size + 1 + 1, 0, none⟩ = some (.int .u64 q) := (blk_cell Q_5 0).trans rfl
        have Qcf := blk_free Q_5
        have Rc0 : w5.cell? ⟨w.heap.size + 1 + 1 + 1, 0, none⟩ = some (.int .u64 0) := (blk_cell R_5 0).trans rfl
        have Rc1 : w5.cell? ⟨w.heap.size + 1 + 1 + 1, 1, none⟩ = some (.int .u64 0) := (blk_cell R_5 1).trans rfl
        have Rcf := blk_free R_5
        have Sc0 : w5.cell? ⟨w.heap.size + 1 + 1 + 1 + 1, 0, none⟩ = some (.pointer (some ⟨w.heap.size + 1, 0, none⟩)) := (blk_cell S_5 0).trans rfl
        have Sc1 : w5.cell? ⟨w.heap.size + 1 + 1 + 1 + 1, 1, none⟩ = some (.pointer (some ⟨w.heap.size + 1 + 1, 0, none⟩)) := (blk_cell S_5 1).trans rfl
        have Scf := blk_free S_5
        have Nl5 : w.heap.size < w5.heap.size := lt_of_at N_5
        have Pl5 : w.heap.size + 1 < w5.heap.size := lt_of_at P_5
        have Ql5 : w.heap.size + 1 + 1 < w5.heap.size := lt_of_at Q_5
        have Rl5 : w.heap.size + 1 + 1 + 1 < w5.heap.size := lt_of_at R_5
        have Sl5 : w.heap.size + 1 + 1 + 1 + 1 < w5.heap.size := lt_of_at S_5
        go_upto_region 4 with fail
        go_cut [11] (fun s0_ wx => s0_ = .int .u64 r2 ∧ Below w5.heap.size w5 wx)
        case first =>
          go_region_held3 (fun w' => Below w5.heap.size w5 w' ∧ (∀ b o, b < w5.heap.size → w'.cell? ⟨b, o, none⟩ = w5.cell? ⟨b, o, none⟩) ∧ ∀ b o, b < w5.heap.size → w'.frozen? ⟨b, o, none⟩ = w5.frozen? ⟨b, o, none⟩) (first | ((try go_split_ands); (try dsimp only); refine same_of ?_; (repeat (first | with_reducible assumption | with_reducible exact Below.refl _ _ | with_reducible refine Below.drew ?_ | with_reducible refine below_drewN ?_ _ | with_reducible refine below_alloc ?_ _ | with_reducible refine Below.alloc ?_ (by first | omega | (simp; done) | (simp; omega)) _ | with_reducible refine Below.setCell ?_ (by first | omega | (simp; done) | (simp; omega)) _ | with_reducible refine below_setRow ?_ (by first | omega | (simp; done) | (simp; omega)) _)); done) | ((try go_split_ands); (try dsimp only); refine same_of ?_; (repeat (first | with_reducible refine below_call ?_ hb99 | with_reducible assumption | with_reducible exact Below.refl _ _ | with_reducible refine Below.drew ?_ | with_reducible refine below_alloc ?_ _)); done)) (first | (go_at_call 44; refine (D3.out _).mono ?_; rintro e w99 ⟨rfl, hb99⟩; obtain ⟨hc99, hf99⟩ := bcell hb99))
          all_goals
            obtain ⟨hb98, -, -⟩ : Below w5.heap.size w5 _ ∧ _ ∧ _ := by assumption
            go_wp2_with fail
            go_meet
            exact ⟨by first | rfl | (simp; done) | (simp; omega), hb98⟩
        case rest =>
          obtain ⟨rfl, hb6⟩ := hcut
          obtain ⟨w6, rfl⟩ : ∃ x : World, x = wc := ⟨_, rfl⟩
          have hs6 := hb6.size
          try simp only [World.size_alloc, World.size_setCell] at hs6
          have N_6 : w6.heap[w.heap.size]? = some (.cells #[.int .u64 a1, .int .u64 b1, .int .u64 c1] 63 (0, 0)) := below_at hb6 (by first | omega | (simp; done) | (simp; omega)) (by (repeat (first | (with_reducible assumption) | (with_reducible exact alloc_at _ _) | ((with_reducible apply alloc_at'); (simp; done)) | (with_reducible apply alloc_at_lt) | (with_reducible apply heap_drew_at) | (with_reducible apply heap_drewN_at) | (with_reducible apply heap_setCell_same) | ((with_reducible apply heap_set_ne); (first | omega | (dsimp only; omega) | (simp; done) | (simp; omega))) | (with_reducible apply setRow_at) | ((with_reducible apply setRow_ne); (first | omega | (dsimp only; omega) | (simp; done) | (simp; omega))))))
          have P_6 : w6.heap[w.heap.size + 1]? = some (.cells #[.int .u64 p1] 22 (0, 0)) := below_at hb6 (by first | omega | (simp; done) | (simp; omega)) (by (repeat (first | (with_reducible assumption) | (with_reducible exact alloc_at _ _) | ((with_reducible apply alloc_at'); (simp; done)) | (with_reducible apply alloc_at_lt) | (with_reducible apply heap_drew_at) | (with_reducible apply heap_drewN_at) | (with_reducible apply heap_setCell_same) | ((with_reducible apply heap_set_ne); (first | omega | (dsimp only; omega) | (simp; done) | (simp; omega))) | (with_reducible apply setRow_at) | ((with_reducible apply setRow_ne); (first | omega | (dsimp only; omega) | (simp; done) | (simp; omega))))))
          have Q_6 : w6.heap[w.heap.size + 1 + 1]? = some (.cells #[.int .u64 q] 22 (0, 0)) := below_at hb6 (by first | omega | (simp; done) | (simp; omega)) (by (repeat (first | (with_reducible assumption) | (with_reducible exact alloc_at _ _) | ((with_reducible apply alloc_at'); (simp; done)) | (with_reducible apply alloc_at_lt) | (with_reducible apply heap_drew_at) | (with_reducible apply heap_drewN_at) | (with_reducible apply heap_setCell_same) | ((with_reducible apply heap_set_ne); (first | omega | (dsimp only; omega) | (simp; done) | (simp; omega))) | (with_reducible apply setRow_at) | ((with_reducible apply setRow_ne); (first | omega | (dsimp only; omega) | (simp; done) | (simp; omega))))))
          have R_6 : w6.heap[w.heap.size + 1 + 1 + 1]? = some (.cells #[.int .u64 0, .int .u64 0] 24 (0, 0)) := below_at hb6 (by first | omega | (simp; done) | (simp; omega)) (by (repeat (first | (with_reducible assumption) | (with_reducible exact alloc_at _ _) | ((with_reducible apply alloc_at'); (simp; done)) | (with_reducible apply alloc_at_lt) | (with_reducible apply heap_drew_at) | (with_reducible apply heap_drewN_at) | (with_reducible apply heap_setCell_same) | ((with_reducible apply heap_set_ne); (first | omega | (dsimp only; omega) | (simp; done) | (simp; omega))) | (with_reducible apply setRow_at) | ((with_reducible apply setRow_ne); (first | omega | (dsimp only; omega) | (simp; done) | (simp; omega))))))
          have S_6 : w6.heap[w.heap.size + 1 + 1 + 1 + 1]? = some (.cells #[.pointer (some ⟨w.heap.size + 1, 0, none⟩), .pointer (some ⟨w.heap.size + 1 + 1, 0, none⟩)] 72 (0, 0)) := below_at hb6 (by first | omega | (simp; done) | (simp; omega)) (by (repeat (first | (with_reducible assumption) | (with_reducible exact alloc_at _ _) | ((with_reducible apply alloc_at'); (simp; done)) | (with_reducible apply alloc_at_lt) | (with_reducible apply heap_drew_at) | (with_reducible apply heap_drewN_at) | (with_reducible apply heap_setCell_same) | ((with_reducible apply heap_set_ne); (first | omega | (dsimp only; omega) | (simp; done) | (simp; omega))) | (with_reducible apply setRow_at) | ((with_reducible apply setRow_ne); (first | omega | (dsimp only; omega) | (simp; done) | (simp; omega))))))
          have B6 : Below w.heap.size w w6 := Below.trans (by repeat (first | with_reducible assumption | with_reducible exact Below.refl _ _ | with_reducible refine Below.drew ?_ | with_reducible refine below_drewN ?_ _ | with_reducible refine below_alloc ?_ _ | with_reducible refine Below.alloc ?_ (by first | omega | (simp; done) | (simp; omega)) _ | with_reducible refine Below.setCell ?_ (by first | omega | (simp; done) | (simp; omega)) _ | with_reducible refine below_setRow ?_ (by first | omega | (simp; done) | (simp; omega)) _)) (hb6.mono (by first | omega | (simp; done) | (simp; omega)))
          clear hb6 N_5 P_5 Q_5 R_5 S_5
          clear Nc0 Nc1 Nc2 Ncf
          clear Pc0 Pcf
          clear Qc0 Qcf
          clear Rc0 Rc1 Rcf
          clear Sc0 Sc1 Scf
          have Nc0 : w6.cell? ⟨w.heap.size, 0, none⟩ = some (.int .u64 a1) := (blk_cell N_6 0).trans rfl
          have Nc1 : w6.cell? ⟨w.heap.size, 1, none⟩ = some (.int .u64 b1) := (blk_cell N_6 1).trans rfl
          have Nc2 : w6.cell? ⟨w.heap.size, 2, none⟩ = some (.int .u64 c1) := (blk_cell N_6 2).trans rfl
          have Ncf := blk_free N_6
          have Pc0 : w6.cell? ⟨w.heap.size + 1, 0, none⟩ = some (.int .u64 p1) := (blk_cell P_6 0).trans rfl
          have Pcf := blk_free P_6
          have Qc0 : w6.cell? ⟨w.heap.size + 1 + 1, 0, none⟩ = some (.int .u64 q) := (blk_cell Q_6 0).trans rfl
          have Qcf := blk_free Q_6
          have Rc0 : w6.cell? ⟨w.heap.size + 1 + 1 + 1, 0, none⟩ = some (.int .u64 0) := (blk_cell R_6 0).trans rfl
          have Rc1 : w6.cell? ⟨w.heap.size + 1 + 1 + 1, 1, none⟩ = some (.int .u64 0) := (blk_cell R_6 1).trans rfl
          have Rcf := blk_free R_6
          have Sc0 : w6.cell? ⟨w.heap.size + 1 + 1 + 1 + 1, 0, none⟩ = some (.pointer (some ⟨w.heap.size + 1, 0, none⟩)) := (blk_cell S_6 0).trans rfl
          have Sc1 : w6.cell? ⟨w.heap.size + 1 + 1 + 1 + 1, 1, none⟩ = some (.pointer (some ⟨w.heap.size + 1 + 1, 0, none⟩)) := (blk_cell S_6 1).trans rfl
          have Scf := blk_free S_6
          have Nl6 : w.heap.size < w6.heap.size := by omega
          have Pl6 : w.heap.size + 1 < w6.heap.size := by omega
          have Ql6 : w.heap.size + 1 + 1 < w6.heap.size := by omega
          have Rl6 : w.heap.size + 1 + 1 + 1 < w6.heap.size := by omega
          have Sl6 : w.heap.size + 1 + 1 + 1 + 1 < w6.heap.size := by omega
          go_wp2_with fail
          refine (G2.out _).mono ?_
          rintro e w7 ⟨rfl, hb7⟩
          have hs7 := hb7.size
          try simp only [World.size_alloc, World.size_setCell] at hs7
          have N_7 : w7.heap[w.heap.size]? = some (.cells #[.int .u64 a1, .int .u64 b1, .int .u64 c1] 63 (0, 0)) := below_at hb7 (by first | omega | (simp; done) | (simp; omega)) (by (repeat (first | (with_reducible assumption) | (with_reducible exact alloc_at _ _) | ((with_reducible apply alloc_at'); (simp; done)) | (with_reducible apply alloc_at_lt) | (with_reducible apply heap_drew_at) | (with_reducible apply heap_drewN_at) | (with_reducible apply heap_setCell_same) | ((with_reducible apply heap_set_ne); (first | omega | (dsimp only; omega) | (simp; done) | (simp; omega))) | (with_reducible apply setRow_at) | ((with_reducible apply setRow_ne); (first | omega | (dsimp only; omega) | (simp; done) | (simp; omega))))))
          have P_7 : w7.heap[w.heap.size + 1]? = some (.cells #[.int .u64 p1] 22 (0, 0)) := below_at hb7 (by first | omega | (simp; done) | (simp; omega)) (by (repeat (first | (with_reducible assumption) | (with_reducible exact alloc_at _ _) | ((with_reducible apply alloc_at'); (simp; done)) | (with_reducible apply alloc_at_lt) | (with_reducible apply heap_drew_at) | (with_reducible apply heap_drewN_at) | (with_reducible apply heap_setCell_same) | ((with_reducible apply heap_set_ne); (first | omega | (dsimp only; omega) | (simp; done) | (simp; omega))) | (with_reducible apply setRow_at) | ((with_reducible apply setRow_ne); (first | omega | (dsimp only; omega) | (simp; done) | (simp; omega))))))
          have Q_7 : w7.heap[w.heap.size + 1 + 1]? = some (.cells #[.int .u64 q] 22 (0, 0)) := below_at hb7 (by first | omega | (simp; done) | (simp; omega)) (by (repeat (first | (with_reducible assumption) | (with_reducible exact alloc_at _ _) | ((with_reducible apply alloc_at'); (simp; done)) | (with_reducible apply alloc_at_lt) | (with_reducible apply heap_drew_at) | (with_reducible apply heap_drewN_at) | (with_reducible apply heap_setCell_same) | ((with_reducible apply heap_set_ne); (first | omega | (dsimp only; omega) | (simp; done) | (simp; omega))) | (with_reducible apply setRow_at) | ((with_reducible apply setRow_ne); (first | omega | (dsimp only; omega) | (simp; done) | (simp; omega))))))
          have R_7 : w7.heap[w.heap.size + 1 + 1 + 1]? = some (.cells #[.int .u64 0, .int .u64 0] 24 (0, 0)) := below_at hb7 (by first | omega | (simp; done) | (simp; omega)) (by (repeat (first | (with_reducible assumption) | (with_reducible exact alloc_at _ _) | ((with_reducible apply alloc_at'); (simp; done)) | (with_reducible apply alloc_at_lt) | (with_reducible apply heap_drew_at) | (with_reducible apply heap_drewN_at) | (with_reducible apply heap_setCell_same) | ((with_reducible apply heap_set_ne); (first | omega | (dsimp only; omega) | (simp; done) | (simp; omega))) | (with_reducible apply setRow_at) | ((with_reducible apply setRow_ne); (first | omega | (dsimp only; omega) | (simp; done) | (simp; omega))))))
          have S_7 : w7.heap[w.heap.size + 1 + 1 + 1 + 1]? = some (.cells #[.pointer (some ⟨w.heap.size + 1, 0, none⟩), .pointer (some ⟨w.heap.size + 1 + 1, 0, none⟩)] 72 (0, 0)) := below_at hb7 (by first | omega | (simp; done) | (simp; omega)) (by (repeat (first | (with_reducible assumption) | (with_reducible exact alloc_at _ _) | ((with_reducible apply alloc_at'); (simp; done)) | (with_reducible apply alloc_at_lt) | (with_reducible apply heap_drew_at) | (with_reducible apply heap_drewN_at) | (with_reducible apply heap_setCell_same) | ((with_reducible apply heap_set_ne); (first | omega | (dsimp only; omega) | (simp; done) | (simp; omega))) | (with_reducible apply setRow_at) | ((with_reducible apply setRow_ne); (first | omega | (dsimp only; omega) | (simp; done) | (simp; omega))))))
          have B7 : Below w.heap.size w w7 := Below.trans (by repeat (first | with_reducible assumption | with_reducible exact Below.refl _ _ | with_reducible refine Below.drew ?_ | with_reducible refine below_drewN ?_ _ | with_reducible refine below_alloc ?_ _ | with_reducible refine Below.alloc ?_ (by first | omega | (simp; done) | (simp; omega)) _ | with_reducible refine Below.setCell ?_ (by first | omega | (simp; done) | (simp; omega)) _ | with_reducible refine below_setRow ?_ (by first | omega | (simp; done) | (simp; omega)) _)) (hb7.mono (by first | omega | (simp; done) | (simp; omega)))
          clear hb7 N_6 P_6 Q_6 R_6 S_6
          clear Nc0 Nc1 Nc2 Ncf
          clear Pc0 Pcf
          clear Qc0 Qcf
          clear Rc0 Rc1 Rcf
          clear Sc0 Sc1 Scf
          have Nc0 : w7.cell? ⟨w.heap.size, 0, none⟩ = some (.int .u64 a1) := (blk_cell N_7 0).trans rfl
          have Nc1 : w7.cell? ⟨w.heap.size, 1, none⟩ = some (.int .u64 b1) := (blk_cell N_7 1).trans rfl
          have Nc2 : w7.cell? ⟨w.heap.size, 2, none⟩ = some (.int .u64 c1) := (blk_cell N_7 2).trans rfl
          have Ncf := blk_free N_7
          have Pc0 : w7.cell? ⟨w.heap.size + 1, 0, none⟩ = some (.int .u64 p1) := (blk_cell P_7 0).trans rfl
          have Pcf := blk_free P_7
          have Qc0 : w7.cell? ⟨w.heap.size + 1 + 1, 0, none⟩ = some (.int .u64 q) := (blk_cell Q_7 0).trans rfl
          have Qcf := blk_free Q_7
          have Rc0 : w7.cell? ⟨w.heap.size + 1 + 1 + 1, 0, none⟩ = some (.int .u64 0) := (blk_cell R_7 0).trans rfl
          have Rc1 : w7.cell? ⟨w.heap.size + 1 + 1 + 1, 1, none⟩ = some (.int .u64 0) := (blk_cell R_7 1).trans rfl
          have Rcf := blk_free R_7
          have Sc0 : w7.cell? ⟨w.heap.size + 1 + 1 + 1 + 1, 0, none⟩ = some (.pointer (some ⟨w.heap.size + 1, 0, none⟩)) := (blk_cell S_7 0).trans rfl
          have Sc1 : w7.cell? ⟨w.heap.size + 1 + 1 + 1 + 1, 1, none⟩ = some (.pointer (some ⟨w.heap.size + 1 + 1, 0, none⟩)) := (blk_cell S_7 1).trans rfl
          have Scf := blk_free S_7
          have Nl7 : w.heap.size < w7.heap.size := by omega
          have Pl7 : w.heap.size + 1 < w7.heap.size := by omega
          have Ql7 : w.heap.size + 1 + 1 < w7.heap.size := by omega
          have Rl7 : w.heap.size + 1 + 1 + 1 < w7.heap.size := by omega
          have Sl7 : w.heap.size + 1 + 1 + 1 + 1 < w7.heap.size := by omega
          go_wp2_with fail
          refine (D4.out _).mono ?_
          rintro e w8 ⟨rfl, hb8⟩
          have hs8 := hb8.size
          try simp only [World.size_alloc, World.size_setCell] at hs8
          have N_8 : w8.heap[w.heap.size]? = some (.cells #[.int .u64 a1, .int .u64 b1, .int .u64 c1] 63 (0, 0)) := below_at hb8 (by first | omega | (simp; done) | (simp; omega)) (by (repeat (first | (with_reducible assumption) | (with_reducible exact alloc_at _ _) | ((with_reducible apply alloc_at'); (simp; done)) | (with_reducible apply alloc_at_lt) | (with_reducible apply heap_drew_at) | (with_reducible apply heap_drewN_at) | (with_reducible apply heap_setCell_same) | ((with_reducible apply heap_set_ne); (first | omega | (dsimp only; omega) | (simp; done) | (simp; omega))) | (with_reducible apply setRow_at) | ((with_reducible apply setRow_ne); (first | omega | (dsimp only; omega) | (simp; done) | (simp; omega))))))
          have P_8 : w8.heap[w.heap.size + 1]? = some (.cells #[.int .u64 p1] 22 (0, 0)) := below_at hb8 (by first | omega | (simp; done) | (simp; omega)) (by (repeat (first | (with_reducible assumption) | (with_reducible exact alloc_at _ _) | ((with_reducible apply alloc_at'); (simp; done)) | (with_reducible apply alloc_at_lt) | (with_reducible apply heap_drew_at) | (with_reducible apply heap_drewN_at) | (with_reducible apply heap_setCell_same) | ((with_reducible apply heap_set_ne); (first | omega | (dsimp only; omega) | (simp; done) | (simp; omega))) | (with_reducible apply setRow_at) | ((with_reducible apply setRow_ne); (first | omega | (dsimp only; omega) | (simp; done) | (simp; omega))))))
          have Q_8 : w8.heap[w.heap.size + 1 + 1]? = some (.cells #[.int .u64 q] 22 (0, 0)) := below_at hb8 (by first | omega | (simp; done) | (simp; omega)) (by (repeat (first | (with_reducible assumption) | (with_reducible exact alloc_at _ _) | ((with_reducible apply alloc_at'); (simp; done)) | (with_reducible apply alloc_at_lt) | (with_reducible apply heap_drew_at) | (with_reducible apply heap_drewN_at) | (with_reducible apply heap_setCell_same) | ((with_reducible apply heap_set_ne); (first | omega | (dsimp only; omega) | (simp; done) | (simp; omega))) | (with_reducible apply setRow_at) | ((with_reducible apply setRow_ne); (first | omega | (dsimp only; omega) | (simp; done) | (simp; omega))))))
          have R_8 : w8.heap[w.heap.size + 1 + 1 + 1]? = some (.cells #[.int .u64 0, .int .u64 0] 24 (0, 0)) := below_at hb8 (by first | omega | (simp; done) | (simp; omega)) (by (repeat (first | (with_reducible assumption) | (with_reducible exact alloc_at _ _) | ((with_reducible apply alloc_at'); (simp; done)) | (with_reducible apply alloc_at_lt) | (with_reducible apply heap_drew_at) | (with_reducible apply heap_drewN_at) | (with_reducible apply heap_setCell_same) | ((with_reducible apply heap_set_ne); (first | omega | (dsimp only; omega) | (simp; done) | (simp; omega))) | (with_reducible apply setRow_at) | ((with_reducible apply setRow_ne); (first | omega | (dsimp only; omega) | (simp; done) | (simp; omega))))))
          have S_8 : w8.heap[w.heap.size + 1 + 1 + 1 + 1]? = some (.cells #[.pointer (some ⟨w.heap.size + 1, 0, none⟩), .pointer (some ⟨w.heap.size + 1 + 1, 0, none⟩)] 72 (0, 0)) := below_at hb8 (by first | omega | (simp; done) | (simp; omega)) (by (repeat (first | (with_reducible assumption) | (with_reducible exact alloc_at _ _) | ((with_reducible apply alloc_at'); (simp; done)) | (with_reducible apply alloc_at_lt) | (with_reducible apply heap_drew_at) | (with_reducible apply heap_drewN_at) | (with_reducible apply heap_setCell_same) | ((with_reducible apply heap_set_ne); (first | omega | (dsimp only; omega) | (simp; done) | (simp; omega))) | (with_reducible apply setRow_at) | ((with_reducible apply setRow_ne); (first | omega | (dsimp only; omega) | (simp; done) | (simp; omega))))))
          have B8 : Below w.heap.size w w8 := Below.trans (by repeat (first | with_reducible assumption | with_reducible exact Below.refl _ _ | with_reducible refine Below.drew ?_ | with_reducible refine below_drewN ?_ _ | with_reducible refine below_alloc ?_ _ | with_reducible refine Below.alloc ?_ (by first | omega | (simp; done) | (simp; omega)) _ | with_reducible refine Below.setCell ?_ (by first | omega | (simp; done) | (simp; omega)) _ | with_reducible refine below_setRow ?_ (by first | omega | (simp; done) | (simp; omega)) _)) (hb8.mono (by first | omega | (simp; done) | (simp; omega)))
          clear hb8 N_7 P_7 Q_7 R_7 S_7
          clear Nc0 Nc1 Nc2 Ncf
          clear Pc0 Pcf
          clear Qc0 Qcf
          clear Rc0 Rc1 Rcf
          clear Sc0 Sc1 Scf
          have Nc0 : w8.cell? ⟨w.heap.size, 0, none⟩ = some (.int .u64 a1) := (blk_cell N_8 0).trans rfl
          have Nc1 : w8.cell? ⟨w.heap.size, 1, none⟩ = some (.int .u64 b1) := (blk_cell N_8 1).trans rfl
          have Nc2 : w8.cell? ⟨w.heap.size, 2, none⟩ = some (.int .u64 c1) := (blk_cell N_8 2).trans rfl
          have Ncf := blk_free N_8
          have Pc0 : w8.cell? ⟨w.heap.size + 1, 0, none⟩ = some (.int .u64 p1) := (blk_cell P_8 0).trans rfl
          have Pcf := blk_free P_8
          have Qc0 : w8.cell? ⟨w.heap.size + 1 + 1, 0, none⟩ = some (.int .u64 q) := (blk_cell Q_8 0).trans rfl
          have Qcf := blk_free Q_8
          have Rc0 : w8.cell? ⟨w.heap.size + 1 + 1 + 1, 0, none⟩ = some (.int .u64 0) := (blk_cell R_8 0).trans rfl
          have Rc1 : w8.cell? ⟨w.heap.size + 1 + 1 + 1, 1, none⟩ = some (.int .u64 0) := (blk_cell R_8 1).trans rfl
          have Rcf := blk_free R_8
          have Sc0 : w8.cell? ⟨w.heap.size + 1 + 1 + 1 + 1, 0, none⟩ = some (.pointer (some ⟨w.heap.size + 1, 0, none⟩)) := (blk_cell S_8 0).trans rfl
          have Sc1 : w8.cell? ⟨w.heap.size + 1 + 1 + 1 + 1, 1, none⟩ = some (.pointer (some ⟨w.heap.size + 1 + 1, 0, none⟩)) := (blk_cell S_8 1).trans rfl
          have Scf := blk_free S_8
          have Nl8 : w.heap.size < w8.heap.size := by omega
          have Pl8 : w.heap.size + 1 < w8.heap.size := by omega
          have Ql8 : w.heap.size + 1 + 1 < w8.heap.size := by omega
          have Rl8 : w.heap.size + 1 + 1 + 1 < w8.heap.size := by omega
          have Sl8 : w.heap.size + 1 + 1 + 1 + 1 < w8.heap.size := by omega
          have hq_q1 := E2.out
          go_wp2_with fail
          clear hq_q1
          rw [rounds_succ]
          go_wp2_with fail
          refine (HM.out _).mono ?_
          rintro e wz ⟨rfl, rfl⟩
          go_wp2_with fail
          refine (HL.out _).mono ?_
          rintro e w9 ⟨rfl, hb9⟩
          have hs9 := hb9.size
          try simp only [World.size_alloc, World.size_setCell] at hs9
          have N_9 : w9.heap[w.heap.size]? = some (.cells #[.int .u64 a2, .int .u64 b2, .int .u64 c2] 63 (0, 0)) := below_at hb9 (by first | omega | (simp; done) | (simp; omega)) (at_of (by apply Exists.intro; refine ⟨?_, ?_⟩; (focus ((repeat (first | (with_reducible assumption) | (with_reducible exact alloc_at _ _) | ((with_reducible apply alloc_at'); (simp; done)) | (with_reducible apply alloc_at_lt) | (with_reducible apply heap_drew_at) | (with_reducible apply heap_drewN_at) | (with_reducible apply heap_setCell_same) | ((with_reducible apply heap_set_ne); (first | omega | (dsimp only; omega) | (simp; done) | (simp; omega))) | (with_reducible apply setRow_at) | ((with_reducible apply setRow_ne); (first | omega | (dsimp only; omega) | (simp; done) | (simp; omega))))))); simp))
          have P_9 : w9.heap[w.heap.size + 1]? = some (.cells #[.int .u64 p1] 22 (0, 0)) := below_at hb9 (by first | omega | (simp; done) | (simp; omega)) (by (repeat (first | (with_reducible assumption) | (with_reducible exact alloc_at _ _) | ((with_reducible apply alloc_at'); (simp; done)) | (with_reducible apply alloc_at_lt) | (with_reducible apply heap_drew_at) | (with_reducible apply heap_drewN_at) | (with_reducible apply heap_setCell_same) | ((with_reducible apply heap_set_ne); (first | omega | (dsimp only; omega) | (simp; done) | (simp; omega))) | (with_reducible apply setRow_at) | ((with_reducible apply setRow_ne); (first | omega | (dsimp only; omega) | (simp; done) | (simp; omega))))))
          have Q_9 : w9.heap[w.heap.size + 1 + 1]? = some (.cells #[.int .u64 q1] 22 (0, 0)) := below_at hb9 (by first | omega | (simp; done) | (simp; omega)) (at_of (by apply Exists.intro; refine ⟨?_, ?_⟩; (focus ((repeat (first | (with_reducible assumption) | (with_reducible exact alloc_at _ _) | ((with_reducible apply alloc_at'); (simp; done)) | (with_reducible apply alloc_at_lt) | (with_reducible apply heap_drew_at) | (with_reducible apply heap_drewN_at) | (with_reducible apply heap_setCell_same) | ((with_reducible apply heap_set_ne); (first | omega | (dsimp only; omega) | (simp; done) | (simp; omega))) | (with_reducible apply setRow_at) | ((with_reducible apply setRow_ne); (first | omega | (dsimp only; omega) | (simp; done) | (simp; omega))))))); simp))
          have R_9 : w9.heap[w.heap.size + 1 + 1 + 1]? = some (.cells #[.int .u64 0, .int .u64 0] 24 (0, 0)) := below_at hb9 (by first | omega | (simp; done) | (simp; omega)) (by (repeat (first | (with_reducible assumption) | (with_reducible exact alloc_at _ _) | ((with_reducible apply alloc_at'); (simp; done)) | (with_reducible apply alloc_at_lt) | (with_reducible apply heap_drew_at) | (with_reducible apply heap_drewN_at) | (with_reducible apply heap_setCell_same) | ((with_reducible apply heap_set_ne); (first | omega | (dsimp only; omega) | (simp; done) | (simp; omega))) | (with_reducible apply setRow_at) | ((with_reducible apply setRow_ne); (first | omega | (dsimp only; omega) | (simp; done) | (simp; omega))))))
          have S_9 : w9.heap[w.heap.size + 1 + 1 + 1 + 1]? = some (.cells #[.pointer (some ⟨w.heap.size + 1, 0, none⟩), .pointer (some ⟨w.heap.size + 1 + 1, 0, none⟩)] 72 (0, 0)) := below_at hb9 (by first | omega | (simp; done) | (simp; omega)) (by (repeat (first | (with_reducible assumption) | (with_reducible exact alloc_at _ _) | ((with_reducible apply alloc_at'); (simp; done)) | (with_reducible apply alloc_at_lt) | (with_reducible apply heap_drew_at) | (with_reducible apply heap_drewN_at) | (with_reducible apply heap_setCell_same) | ((with_reducible apply heap_set_ne); (first | omega | (dsimp only; omega) | (simp; done) | (simp; omega))) | (with_reducible apply setRow_at) | ((with_reducible apply setRow_ne); (first | omega | (dsimp only; omega) | (simp; done) | (simp; omega))))))
          have B9 : Below w.heap.size w w9 := Below.trans (by repeat (first | with_reducible assumption | with_reducible exact Below.refl _ _ | with_reducible refine Below.drew ?_ | with_reducible refine below_drewN ?_ _ | with_reducible refine below_alloc ?_ _ | with_reducible refine Below.alloc ?_ (by first | omega | (simp; done) | (simp; omega)) _ | with_reducible refine Below.setCell ?_ (by first | omega | (simp; done) | (simp; omega)) _ | with_reducible refine below_setRow ?_ (by first | omega | (simp; done) | (simp; omega)) _)) (hb9.mono (by first | omega | (simp; done) | (simp; omega)))
          clear hb9 N_8 P_8 Q_8 R_8 S_8
          clear Nc0 Nc1 Nc2 Ncf
          clear Pc0 Pcf
          clear Qc0 Qcf
          clear Rc0 Rc1 Rcf
          clear Sc0 Sc1 Scf
          have Nc0 : w9.cell? ⟨w.heap.size, 0, none⟩ = some (.int .u64 a2) := (blk_cell N_9 0).trans rfl
          have Nc1 : w9.cell? ⟨w.heap.size, 1, none⟩ = some (.int .u64 b2) := (blk_cell N_9 1).trans rfl
          have Nc2 : w9.cell? ⟨w.heap.size, 2, none⟩ = some (.int .u64 c2) := (blk_cell N_9 2).trans rfl
          have Ncf := blk_free N_9
          have Pc0 : w9.cell? ⟨w.heap.size + 1, 0, none⟩ = some (.int .u64 p1) := (blk_cell P_9 0).trans rfl
          have Pcf := blk_free P_9
          have Qc0 : w9.cell? ⟨w.heap.size + 1 + 1, 0, none⟩ = some (.int .u64 q1) := (blk_cell Q_9 0).trans rfl
          have Qcf := blk_free Q_9
          have Rc0 : w9.cell? ⟨w.heap.size + 1 + 1 + 1, 0, none⟩ = some (.int .u64 0) := (blk_cell R_9 0).trans rfl
          have Rc1 : w9.cell? ⟨w.heap.size + 1 + 1 + 1, 1, none⟩ = some (.int .u64 0) := (blk_cell R_9 1).trans rfl
          have Rcf := blk_free R_9
          have Sc0 : w9.cell? ⟨w.heap.size + 1 + 1 + 1 + 1, 0, none⟩ = some (.pointer (some ⟨w.heap.size + 1, 0, none⟩)) := (blk_cell S_9 0).trans rfl
          have Sc1 : w9.cell? ⟨w.heap.size + 1 + 1 + 1 + 1, 1, none⟩ = some (.pointer (some ⟨w.heap.size + 1 + 1, 0, none⟩)) := (blk_cell S_9 1).trans rfl
          have Scf := blk_free S_9
          have Nl9 : w.heap.size < w9.heap.size := by omega
          have Pl9 : w.heap.size + 1 < w9.heap.size := by omega
          have Ql9 : w.heap.size + 1 + 1 < w9.heap.size := by omega
          have Rl9 : w.heap.size + 1 + 1 + 1 < w9.heap.size := by omega
          have Sl9 : w.heap.size + 1 + 1 + 1 + 1 < w9.heap.size := by omega
          go_wp2
          refine ret_row2 rfl (w.heap.size + 1 + 1 + 1) #[.int .u64 c2, .int .u64 l] 24 _ rfl Try.underlying24 rfl infoR rfl (by apply Exists.intro; refine ⟨?_, ?_⟩; (focus ((repeat (first | (with_reducible assumption) | (with_reducible exact alloc_at _ _) | ((with_reducible apply alloc_at'); (simp; done)) | (with_reducible apply alloc_at_lt) | (with_reducible apply heap_drew_at) | (with_reducible apply heap_drewN_at) | (with_reducible apply heap_setCell_same) | ((with_reducible apply heap_set_ne); (first | omega | (dsimp only; omega) | (simp; done) | (simp; omega))) | (with_reducible apply setRow_at) | ((with_reducible apply setRow_ne); (first | omega | (dsimp only; omega) | (simp; done) | (simp; omega))))))); simp) ⟨rfl, (by repeat (first | with_reducible assumption | with_reducible exact Below.refl _ _ | with_reducible refine Below.drew ?_ | with_reducible refine below_drewN ?_ _ | with_reducible refine below_alloc ?_ _ | with_reducible refine Below.alloc ?_ (by first | omega | (simp; done) | (simp; omega)) _ | with_reducible refine Below.setCell ?_ (by first | omega | (simp; done) | (simp; omega)) _ | with_reducible refine below_setRow ?_ (by first | omega | (simp; done) | (simp; omega)) _))⟩
end Go.Proofs.Ytbkopmgfkokmgaa
