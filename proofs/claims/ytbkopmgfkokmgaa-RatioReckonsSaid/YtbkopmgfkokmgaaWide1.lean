/- The contract of a number of three words, divided by a word. Asked: that all are words, and the divisor isn't nought. -/
import Derived.Test.YtbkopmgfkokmgaaDiv1
import Derived.Test.YtbkopmgfkokmgaaRat1
import Derived.Deep.DeepCutAuto
namespace Go.Proofs.Ytbkopmgfkokmgaa
open Go.RowKit
theorem infoW : (Try.prog.info? 63).map (·.size) = some 3 := by kernel_rfl
set_option maxRecDepth 100000 in
set_option maxHeartbeats 2000000 in
theorem divided_raw (a b c d q0 q1 q2 r0 r1 r2 : Int) (w : World) (a0 : 0 ≤ a) (a1 : a ≤ 18446744073709551615) (b0 : 0 ≤ b) (b1 : b ≤ 18446744073709551615) (c0 : 0 ≤ c) (c1 : c ≤ 18446744073709551615) (d0 : 0 < d) (d1 : d ≤ 18446744073709551615)
    (eq0 : (0 * 18446744073709551616 + a) / d = q0) (er0 : (0 * 18446744073709551616 + a) % d = r0) (eq1 : (r0 * 18446744073709551616 + b) / d = q1) (er1 : (r0 * 18446744073709551616 + b) % d = r1) (eq2 : (r1 * 18446744073709551616 + c) / d = q2) (er2 : (r1 * 18446744073709551616 + c) % d = r2) :
    Calls Try.prog 44 #[.agg #[.int .u64 a, .int .u64 b, .int .u64 c], .int .u64 d] w fun e w' => e = .returned (.tuple #[.agg #[.int .u64 q0, .int .u64 q1, .int .u64 q2], .int .u64 r2]) ∧ Below w.heap.size w w' := by
  have p0 : 0 ≤ r0 := by rw [← er0]; exact Int.emod_nonneg _ (by omega)
  have p1 : r0 < d := by rw [← er0]; exact Int.emod_lt_of_pos _ d0
  have p2 : 0 ≤ r1 := by rw [← er1]; exact Int.emod_nonneg _ (by omega)
  have p3 : r1 < d := by rw [← er1]; exact Int.emod_lt_of_pos _ d0
  have h1 : ∀ W, Calls Try.prog 46 #[.int .u64 0, .int .u64 a, .int .u64 d] W fun e w' => e = .returned (.tuple #[.int .u64 q0, .int .u64 r0]) ∧ Below W.heap.size W w' := fun W => by
    have h := div_any 0 a d W (by omega) (by omega) (by omega) (by omega) (by omega); rw [eq0, er0] at h; exact h
  have H1 := hid h1
  clear h1
  have h2 : ∀ W, Calls Try.prog 46 #[.int .u64 r0, .int .u64 b, .int .u64 d] W fun e w' => e = .returned (.tuple #[.int .u64 q1, .int .u64 r1]) ∧ Below W.heap.size W w' := fun W => by
    have h := div_any r0 b d W (by omega) (by omega) (by omega) (by omega) (by omega); rw [eq1, er1] at h; exact h
  have H2 := hid h2
  clear h2
  have h3 : ∀ W, Calls Try.prog 46 #[.int .u64 r1, .int .u64 c, .int .u64 d] W fun e w' => e = .returned (.tuple #[.int .u64 q2, .int .u64 r2]) ∧ Below W.heap.size W w' := fun W => by
    have h := div_any r1 c d W (by omega) (by omega) (by omega) (by omega) (by omega); rw [eq2, er2] at h; exact h
  have H3 := hid h3
  clear h3
  clear eq0 er0 eq1 er1 eq2 er2 p0 p1 p2 p3 a0 a1 b0 b1 c0 c1 d0 d1
  go_enter Try.func44, Try.ntmps44
  go_wp2_with fail
  refine wp_loop_rounds 4 ?_
  rw [rounds_succ]
  go_wp2_with fail
  refine (H1.out _).mono ?_
  rintro e w1 ⟨rfl, hb1⟩
  have hs1 := hb1.size
  try simp only [World.size_alloc, World.size_setCell] at hs1
  have P_1 : w1.heap[w.heap.size]? = some (.cells #[.int .u64 a, .int .u64 b, .int .u64 c] 63 (0, 0)) := below_at hb1 (by first | omega | (simp; done) | (simp; omega)) (by (repeat (first | (with_reducible assumption) | (with_reducible exact alloc_at _ _) | ((with_reducible apply alloc_at'); (simp; done)) | (with_reducible apply alloc_at_lt) | (with_reducible apply heap_drew_at) | (with_reducible apply heap_drewN_at) | (with_reducible apply heap_setCell_same) | ((with_reducible apply heap_set_ne); (first | omega | (dsimp only; omega) | (simp; done) | (simp; omega))) | (with_reducible apply setRow_at) | ((with_reducible apply setRow_ne); (first | omega | (dsimp only; omega) | (simp; done) | (simp; omega))))))
  have R_1 : w1.heap[w.heap.size + 1]? = some (.cells #[.int .u64 0, .int .u64 0, .int .u64 0] 63 (0, 0)) := below_at hb1 (by first | omega | (simp; done) | (simp; omega)) (by (repeat (first | (with_reducible assumption) | (with_reducible exact alloc_at _ _) | ((with_reducible apply alloc_at'); (simp; done)) | (with_reducible apply alloc_at_lt) | (with_reducible apply heap_drew_at) | (with_reducible apply heap_drewN_at) | (with_reducible apply heap_setCell_same) | ((with_reducible apply heap_set_ne); (first | omega | (dsimp only; omega) | (simp; done) | (simp; omega))) | (with_reducible apply setRow_at) | ((with_reducible apply setRow_ne); (first | omega | (dsimp only; omega) | (simp; done) | (simp; omega))))))
  have Q_1 : w1.heap[w.heap.size + 1 + 1]? = some (.cells #[.int .u64 0, .int .u64 0, .int .u64 0] 63 (0, 0)) := below_at hb1 (by first | omega | (simp; done) | (simp; omega)) (by (repeat (first | (with_reducible assumption) | (with_reducible exact alloc_at _ _) | ((with_reducible apply alloc_at'); (simp; done)) | (with_reducible apply alloc_at_lt) | (with_reducible apply heap_drew_at) | (with_reducible apply heap_drewN_at) | (with_reducible apply heap_setCell_same) | ((with_reducible apply heap_set_ne); (first | omega | (dsimp only; omega) | (simp; done) | (simp; omega))) | (with_reducible apply setRow_at) | ((with_reducible apply setRow_ne); (first | omega | (dsimp only; omega) | (simp; done) | (simp; omega))))))
  have B1 : Below w.heap.size w w1 := Below.trans (by repeat (first | with_reducible assumption | with_reducible exact Below.refl _ _ | with_reducible refine Below.drew ?_ | with_reducible refine below_drewN ?_ _ | with_reducible refine below_alloc ?_ _ | with_reducible refine Below.alloc ?_ (by first | omega | (simp; done) | (simp; omega)) _ | with_reducible refine Below.setCell ?_ (by first | omega | (simp; done) | (simp; omega)) _ | with_reducible refine below_setRow ?_ (by first | omega | (simp; done) | (simp; omega)) _)) (hb1.mono (by first | omega | (simp; done) | (simp; omega)))
  clear hb1
  have Pc0 : w1.cell? ⟨w.heap.size, 0, none⟩ = some (.int .u64 a) := (blk_cell P_1 0).trans rfl
  have Pc1 : w1.cell? ⟨w.heap.size, 1, none⟩ = some (.int .u64 b) := (blk_cell P_1 1).trans rfl
  have Pc2 : w1.cell? ⟨w.heap.size, 2, none⟩ = some (.int .u64 c) := (blk_cell P_1 2).trans rfl
  have Pcf := blk_free P_1
  have Rc0 : w1.cell? ⟨w.heap.size + 1, 0, none⟩ = some (.int .u64 0) := (blk_cell R_1 0).trans rfl
  have Rc1 : w1.cell? ⟨w.heap.size + 1, 1, none⟩ = some (.int .u64 0) := (blk_cell R_1 1).trans rfl
  have Rc2 : w1.cell? ⟨w.heap.size + 1, 2, none⟩ = some (.int .u64 0) := (blk_cell R_1 2).trans rfl
  have Rcf := blk_free R_1
  have Qc0 : w1.cell? ⟨w.heap.size + 1 + 1, 0, none⟩ = some (.int .u64 0) := (blk_cell Q_1 0).trans rfl
  have Qc1 : w1.cell? ⟨w.heap.size + 1 + 1, 1, none⟩ = some (.int .u64 0) := (blk_cell Q_1 1).trans rfl
  have Qc2 : w1.cell? ⟨w.heap.size + 1 + 1, 2, none⟩ = some (.int .u64 0) := (blk_cell Q_1 2).trans rfl
  have Qcf := blk_free Q_1
  have Pl1 : w.heap.size < w1.heap.size := by omega
  have Rl1 : w.heap.size + 1 < w1.heap.size := by omega
  have Ql1 : w.heap.size + 1 + 1 < w1.heap.size := by omega
  go_wp2_with fail
  rw [rounds_succ]
  go_wp2_with fail
  refine (H2.out _).mono ?_
  rintro e w2 ⟨rfl, hb2⟩
  have hs2 := hb2.size
  try simp only [World.size_alloc, World.size_setCell] at hs2
  have P_2 : w2.heap[w.heap.size]? = some (.cells #[.int .u64 a, .int .u64 b, .int .u64 c] 63 (0, 0)) := below_at hb2 (by first | omega | (simp; done) | (simp; omega)) (by (repeat (first | (with_reducible assumption) | (with_reducible exact alloc_at _ _) | ((with_reducible apply alloc_at'); (simp; done)) | (with_reducible apply alloc_at_lt) | (with_reducible apply heap_drew_at) | (with_reducible apply heap_drewN_at) | (with_reducible apply heap_setCell_same) | ((with_reducible apply heap_set_ne); (first | omega | (dsimp only; omega) | (simp; done) | (simp; omega))) | (with_reducible apply setRow_at) | ((with_reducible apply setRow_ne); (first | omega | (dsimp only; omega) | (simp; done) | (simp; omega))))))
  have R_2 : w2.heap[w.heap.size + 1]? = some (.cells #[.int .u64 0, .int .u64 0, .int .u64 0] 63 (0, 0)) := below_at hb2 (by first | omega | (simp; done) | (simp; omega)) (by (repeat (first | (with_reducible assumption) | (with_reducible exact alloc_at _ _) | ((with_reducible apply alloc_at'); (simp; done)) | (with_reducible apply alloc_at_lt) | (with_reducible apply heap_drew_at) | (with_reducible apply heap_drewN_at) | (with_reducible apply heap_setCell_same) | ((with_reducible apply heap_set_ne); (first | omega | (dsimp only; omega) | (simp; done) | (simp; omega))) | (with_reducible apply setRow_at) | ((with_reducible apply setRow_ne); (first | omega | (dsimp only; omega) | (simp; done) | (simp; omega))))))
  have Q_2 : w2.heap[w.heap.size + 1 + 1]? = some (.cells #[.int .u64 q0, .int .u64 0, .int .u64 0] 63 (0, 0)) := below_at hb2 (by first | omega | (simp; done) | (simp; omega)) (at_of (by apply Exists.intro; refine ⟨?_, ?_⟩; (focus ((repeat (first | (with_reducible assumption) | (with_reducible exact alloc_at _ _) | ((with_reducible apply alloc_at'); (simp; done)) | (with_reducible apply alloc_at_lt) | (with_reducible apply heap_drew_at) | (with_reducible apply heap_drewN_at) | (with_reducible apply heap_setCell_same) | ((with_reducible apply heap_set_ne); (first | omega | (dsimp only; omega) | (simp; done) | (simp; omega))) | (with_reducible apply setRow_at) | ((with_reducible apply setRow_ne); (first | omega | (dsimp only; omega) | (simp; done) | (simp; omega))))))); simp))
  have B2 : Below w.heap.size w w2 := Below.trans (by repeat (first | with_reducible assumption | with_reducible exact Below.refl _ _ | with_reducible refine Below.drew ?_ | with_reducible refine below_drewN ?_ _ | with_reducible refine below_alloc ?_ _ | with_reducible refine Below.alloc ?_ (by first | omega | (simp; done) | (simp; omega)) _ | with_reducible refine Below.setCell ?_ (by first | omega | (simp; done) | (simp; omega)) _ | with_reducible refine below_setRow ?_ (by first | omega | (simp; done) | (simp; omega)) _)) (hb2.mono (by first | omega | (simp; done) | (simp; omega)))
  clear hb2 P_1 R_1 Q_1
  clear Pc0 Pc1 Pc2 Pcf
  clear Rc0 Rc1 Rc2 Rcf
  clear Qc0 Qc1 Qc2 Qcf
  have Pc0 : w2.cell? ⟨w.heap.size, 0, none⟩ = some (.int .u64 a) := (blk_cell P_2 0).trans rfl
  have Pc1 : w2.cell? ⟨w.heap.size, 1, none⟩ = some (.int .u64 b) := (blk_cell P_2 1).trans rfl
  have Pc2 : w2.cell? ⟨w.heap.size, 2, none⟩ = some (.int .u64 c) := (blk_cell P_2 2).trans rfl
  have Pcf := blk_free P_2
  have Rc0 : w2.cell? ⟨w.heap.size + 1, 0, none⟩ = some (.int .u64 0) := (blk_cell R_2 0).trans rfl
  have Rc1 : w2.cell? ⟨w.heap.size + 1, 1, none⟩ = some (.int .u64 0) := (blk_cell R_2 1).trans rfl
  have Rc2 : w2.cell? ⟨w.heap.size + 1, 2, none⟩ = some (.int .u64 0) := (blk_cell R_2 2).trans rfl
  have Rcf := blk_free R_2
  have Qc0 : w2.cell? ⟨w.heap.size + 1 + 1, 0, none⟩ = some (.int .u64 q0) := (blk_cell Q_2 0).trans rfl
  have Qc1 : w2.cell? ⟨w.heap.size + 1 + 1, 1, none⟩ = some (.int .u64 0) := (blk_cell Q_2 1).trans rfl
  have Qc2 : w2.cell? ⟨w.heap.size + 1 + 1, 2, none⟩ = some (.int .u64 0) := (blk_cell Q_2 2).trans rfl
  have Qcf := blk_free Q_2
  have Pl2 : w.heap.size < w2.heap.size := by omega
  have Rl2 : w.heap.size + 1 < w2.heap.size := by omega
  have Ql2 : w.heap.size + 1 + 1 < w2.heap.size := by omega
  go_wp2_with fail
  rw [rounds_succ]
  go_wp2_with fail
  refine (H3.out _).mono ?_
  rintro e w3 ⟨rfl, hb3⟩
  have hs3 := hb3.size
  try simp only [World.size_alloc, World.size_setCell] at hs3
  have P_3 : w3.heap[w.heap.size]? = some (.cells #[.int .u64 a, .int .u64 b, .int .u64 c] 63 (0, 0)) := below_at hb3 (by first | omega | (simp; done) | (simp; omega)) (by (repeat (first | (with_reducible assumption) | (with_reducible exact alloc_at _ _) | ((with_reducible apply alloc_at'); (simp; done)) | (with_reducible apply alloc_at_lt) | (with_reducible apply heap_drew_at) | (with_reducible apply heap_drewN_at) | (with_reducible apply heap_setCell_same) | ((with_reducible apply heap_set_ne); (first | omega | (dsimp only; omega) | (simp; done) | (simp; omega))) | (with_reducible apply setRow_at) | ((with_reducible apply setRow_ne); (first | omega | (dsimp only; omega) | (simp; done) | (simp; omega))))))
  have R_3 : w3.heap[w.heap.size + 1]? = some (.cells #[.int .u64 0, .int .u64 0, .int .u64 0] 63 (0, 0)) := below_at hb3 (by first | omega | (simp; done) | (simp; omega)) (by (repeat (first | (with_reducible assumption) | (with_reducible exact alloc_at _ _) | ((with_reducible apply alloc_at'); (simp; done)) | (with_reducible apply alloc_at_lt) | (with_reducible apply heap_drew_at) | (with_reducible apply heap_drewN_at) | (with_reducible apply heap_setCell_same) | ((with_reducible apply heap_set_ne); (first | omega | (dsimp only; omega) | (simp; done) | (simp; omega))) | (with_reducible apply setRow_at) | ((with_reducible apply setRow_ne); (first | omega | (dsimp only; omega) | (simp; done) | (simp; omega))))))
  have Q_3 : w3.heap[w.heap.size + 1 + 1]? = some (.cells #[.int .u64 q0, .int .u64 q1, .int .u64 0] 63 (0, 0)) := below_at hb3 (by first | omega | (simp; done) | (simp; omega)) (at_of (by apply Exists.intro; refine ⟨?_, ?_⟩; (focus ((repeat (first | (with_reducible assumption) | (with_reducible exact alloc_at _ _) | ((with_reducible apply alloc_at'); (simp; done)) | (with_reducible apply alloc_at_lt) | (with_reducible apply heap_drew_at) | (with_reducible apply heap_drewN_at) | (with_reducible apply heap_setCell_same) | ((with_reducible apply heap_set_ne); (first | omega | (dsimp only; omega) | (simp; done) | (simp; omega))) | (with_reducible apply setRow_at) | ((with_reducible apply setRow_ne); (first | omega | (dsimp only; omega) | (simp; done) | (simp; omega))))))); simp))
  have B3 : Below w.heap.size w w3 := Below.trans (by repeat (first | with_reducible assumption | with_reducible exact Below.refl _ _ | with_reducible refine Below.drew ?_ | with_reducible refine below_drewN ?_ _ | with_reducible refine below_alloc ?_ _ | with_reducible refine Below.alloc ?_ (by first | omega | (simp; done) | (simp; omega)) _ | with_reducible refine Below.setCell ?_ (by first | omega | (simp; done) | (simp; omega)) _ | with_reducible refine below_setRow ?_ (by first | omega | (simp; done) | (simp; omega)) _)) (hb3.mono (by first | omega | (simp; done) | (simp; omega)))
  clear hb3 P_2 R_2 Q_2
  clear Pc0 Pc1 Pc2 Pcf
  clear Rc0 Rc1 Rc2 Rcf
  clear Qc0 Qc1 Qc2 Qcf
  have Pc0 : w3.cell? ⟨w.heap.size, 0, none⟩ = some (.int .u64 a) := (blk_cell P_3 0).trans rfl
  have Pc1 : w3.cell? ⟨w.heap.size, 1, none⟩ = some (.int .u64 b) := (blk_cell P_3 1).trans rfl
  have Pc2 : w3.cell? ⟨w.heap.size, 2, none⟩ = some (.int .u64 c) := (blk_cell P_3 2).trans rfl
  have Pcf := blk_free P_3
  have Rc0 : w3.cell? ⟨w.heap.size + 1, 0, none⟩ = some (.int .u64 0) := (blk_cell R_3 0).trans rfl
  have Rc1 : w3.cell? ⟨w.heap.size + 1, 1, none⟩ = some (.int .u64 0) := (blk_cell R_3 1).trans rfl
  have Rc2 : w3.cell? ⟨w.heap.size + 1, 2, none⟩ = some (.int .u64 0) := (blk_cell R_3 2).trans rfl
  have Rcf := blk_free R_3
  have Qc0 : w3.cell? ⟨w.heap.size + 1 + 1, 0, none⟩ = some (.int .u64 q0) := (blk_cell Q_3 0).trans rfl
  have Qc1 : w3.cell? ⟨w.heap.size + 1 + 1, 1, none⟩ = some (.int .u64 q1) := (blk_cell Q_3 1).trans rfl
  have Qc2 : w3.cell? ⟨w.heap.size + 1 + 1, 2, none⟩ = some (.int .u64 0) := (blk_cell Q_3 2).trans rfl
  have Qcf := blk_free Q_3
  have Pl3 : w.heap.size < w3.heap.size := by omega
  have Rl3 : w.heap.size + 1 < w3.heap.size := by omega
  have Ql3 : w.heap.size + 1 + 1 < w3.heap.size := by omega
  go_wp2_with fail
  rw [rounds_succ]
  go_wp2
  refine ret_row2 rfl (w.heap.size + 1) #[.int .u64 q0, .int .u64 q1, .int .u64 q2] 63 _ rfl Try.underlying63 rfl infoW rfl (by apply Exists.intro; refine ⟨?_, ?_⟩; (focus ((repeat (first | (with_reducible assumption) | (with_reducible exact alloc_at _ _) | ((with_reducible apply alloc_at'); (simp; done)) | (with_reducible apply alloc_at_lt) | (with_reducible apply heap_drew_at) | (with_reducible apply heap_drewN_at) | (with_reducible apply heap_setCell_same) | ((with_reducible apply heap_set_ne); (first | omega | (dsimp only; omega) | (simp; done) | (simp; omega))) | (with_reducible apply setRow_at) | ((with_reducible apply setRow_ne); (first | omega | (dsimp only; omega) | (simp; done) | (simp; omega))))))); simp) ⟨rfl, (by repeat (first | with_reducible assumption | with_reducible exact Below.refl _ _ | with_reducible refine Below.drew ?_ | with_reducible refine below_drewN ?_ _ | with_reducible refine below_alloc ?_ _ | with_reducible refine Below.alloc ?_ (by first | omega | (simp; done) | (simp; omega)) _ | with_reducible refine Below.setCell ?_ (by first | omega | (simp; done) | (simp; omega)) _ | with_reducible refine below_setRow ?_ (by first | omega | (simp; done) | (simp; omega)) _))⟩
/-- Three words as one number. -/
def wideN (a b c : Int) : Int := (a * 18446744073709551616 + b) * 18446744073709551616 + c
theorem wide_div {a b c d q0 q1 q2 r0 r1 r2 : Int} (d0 : 0 < d) (eq0 : (0 * 18446744073709551616 + a) / d = q0) (er0 : (0 * 18446744073709551616 + a) % d = r0) (eq1 : (r0 * 18446744073709551616 + b) / d = q1) (er1 : (r0 * 18446744073709551616 + b) % d = r1) (eq2 : (r1 * 18446744073709551616 + c) / d = q2) (er2 : (r1 * 18446744073709551616 + c) % d = r2) :
    wideN a b c / d = wideN q0 q1 q2 ∧ wideN a b c % d = r2 ∧ 0 ≤ r2 ∧ r2 < d := by
  have a1 := Int.mul_ediv_add_emod (0 * 18446744073709551616 + a) d
  have a2 := Int.mul_ediv_add_emod (r0 * 18446744073709551616 + b) d
  have a3 := Int.mul_ediv_add_emod (r1 * 18446744073709551616 + c) d
  have z0 : 0 ≤ r2 := by rw [← er2]; exact Int.emod_nonneg _ (by omega)
  have z1 : r2 < d := by rw [← er2]; exact Int.emod_lt_of_pos _ d0
  rw [eq0, er0] at a1; rw [eq1, er1] at a2; rw [eq2, er2] at a3
  have e : wideN a b c = r2 + d * wideN q0 q1 q2 := by
    unfold wideN
    rw [Int.mul_add, ← Int.mul_assoc, Int.mul_add, ← Int.mul_assoc]
    omega
  refine ⟨?_, ?_, z0, z1⟩
  · rw [e, Int.add_mul_ediv_left _ _ (by omega), Int.ediv_eq_zero_of_lt z0 z1]; omega
  · rw [e, Int.add_mul_emod_self_left, Int.emod_eq_of_lt z0 z1]
theorem div_word {r l d : Int} (h0 : 0 ≤ r) (h1 : r < d) (l0 : 0 ≤ l) (l1 : l ≤ 18446744073709551615) : 0 ≤ (r * 18446744073709551616 + l) / d ∧ (r * 18446744073709551616 + l) / d ≤ 18446744073709551615 := by
  refine ⟨Int.ediv_nonneg (by omega) (by omega), ?_⟩
  have : (r * 18446744073709551616 + l) / d < 18446744073709551616 := Int.ediv_lt_of_lt_mul (by omega) (by omega)
  omega
/-- The contract: the quotient is three words again. -/
theorem divided_any (a b c d : Int) (a0 : 0 ≤ a) (a1 : a ≤ 18446744073709551615) (b0 : 0 ≤ b) (b1 : b ≤ 18446744073709551615) (c0 : 0 ≤ c) (c1 : c ≤ 18446744073709551615) (d0 : 0 < d) (d1 : d ≤ 18446744073709551615) : ∃ q0 q1 q2 r : Int,
    (0 ≤ q0 ∧ q0 ≤ 18446744073709551615) ∧ (0 ≤ q1 ∧ q1 ≤ 18446744073709551615) ∧ (0 ≤ q2 ∧ q2 ≤ 18446744073709551615) ∧ wideN a b c / d = wideN q0 q1 q2 ∧ wideN a b c % d = r ∧ 0 ≤ r ∧ r < d ∧
    ∀ w, Calls Try.prog 44 #[.agg #[.int .u64 a, .int .u64 b, .int .u64 c], .int .u64 d] w fun e w' => e = .returned (.tuple #[.agg #[.int .u64 q0, .int .u64 q1, .int .u64 q2], .int .u64 r]) ∧ Below w.heap.size w w' := by
  obtain ⟨q0, e0⟩ : ∃ x, (0 * 18446744073709551616 + a) / d = x := ⟨_, rfl⟩
  obtain ⟨r0, f0⟩ : ∃ x, (0 * 18446744073709551616 + a) % d = x := ⟨_, rfl⟩
  obtain ⟨q1, e1⟩ : ∃ x, (r0 * 18446744073709551616 + b) / d = x := ⟨_, rfl⟩
  obtain ⟨r1, f1⟩ : ∃ x, (r0 * 18446744073709551616 + b) % d = x := ⟨_, rfl⟩
  obtain ⟨q2, e2⟩ : ∃ x, (r1 * 18446744073709551616 + c) / d = x := ⟨_, rfl⟩
  obtain ⟨r2, f2⟩ : ∃ x, (r1 * 18446744073709551616 + c) % d = x := ⟨_, rfl⟩
  obtain ⟨k1, k2, k3, k4⟩ := wide_div d0 e0 f0 e1 f1 e2 f2
  have p0 : 0 ≤ r0 := by rw [← f0]; exact Int.emod_nonneg _ (by omega)
  have p1 : r0 < d := by rw [← f0]; exact Int.emod_lt_of_pos _ d0
  have p2 : 0 ≤ r1 := by rw [← f1]; exact Int.emod_nonneg _ (by omega)
  have p3 : r1 < d := by rw [← f1]; exact Int.emod_lt_of_pos _ d0
  refine ⟨q0, q1, q2, r2, e0 ▸ div_word (by omega) d0 a0 a1, e1 ▸ div_word p0 p1 b0 b1, e2 ▸ div_word p2 p3 c0 c1, k1, k2, k3, k4, fun w => ?_⟩
  exact divided_raw a b c d q0 q1 q2 r0 r1 r2 w a0 a1 b0 b1 c0 c1 d0 d1 e0 f0 e1 f1 e2 f2
end Go.Proofs.Ytbkopmgfkokmgaa
