/- Contracts of chapter 2's law's helpers: plain, same (of one answer). -/
import Derived.Test.YtbkopmgfkokmgaaAwk2
import Derived.Test.YtbkopmgfkokmgaaBig4
import Derived.Deep.DeepCutAuto
namespace Go.Proofs.Ytbkopmgfkokmgaa
open Go.RowKit
set_option maxHeartbeats 400000 in
theorem plain_any (n d : Int) (w : World) : Calls Try.prog 13 #[.agg #[.int .u64 n, .int .u64 d]] w fun e w' => e = .returned (.agg #[.int .u64 n, .int .u64 d]) ∧ Below w.heap.size w w' := by
  go_enter Try.func13, Try.ntmps13
  go_wp2
  refine ret_row1 rfl (w.heap.size + 1) #[.int .u64 n, .int .u64 d] 29 _ rfl Try.underlying29 rfl infoR' rfl (by apply Exists.intro; refine ⟨?_, ?_⟩; (focus ((repeat (first | (with_reducible assumption) | (with_reducible exact alloc_at _ _) | ((with_reducible apply alloc_at'); (simp; done)) | (with_reducible apply alloc_at_lt) | (with_reducible apply heap_drew_at) | (with_reducible apply heap_drewN_at) | (with_reducible apply heap_setCell_same) | ((with_reducible apply heap_set_ne); (first | omega | (dsimp only; omega) | (simp; done) | (simp; omega))) | (with_reducible apply setRow_at) | ((with_reducible apply setRow_ne); (first | omega | (dsimp only; omega) | (simp; done) | (simp; omega))))))); simp) ⟨rfl, (by repeat (first | with_reducible assumption | with_reducible exact Below.refl _ _ | with_reducible refine Below.drew ?_ | with_reducible refine below_drewN ?_ _ | with_reducible refine below_alloc ?_ _ | with_reducible refine Below.alloc ?_ (by first | omega | (simp; done) | (simp; omega)) _ | with_reducible refine Below.setCell ?_ (by first | omega | (simp; done) | (simp; omega)) _ | with_reducible refine below_setRow ?_ (by first | omega | (simp; done) | (simp; omega)) _))⟩
set_option maxHeartbeats 800000 in
theorem same_any (n d e : Int) (w : World) : Calls Try.prog 14 #[.agg #[.int .u64 n, .int .u64 d], .int .i64 e, .agg #[.int .u64 n, .int .u64 d], .int .i64 e] w fun e w' => e = .returned (.bool true) ∧ Below w.heap.size w w' := by
  go_enter Try.func14, Try.ntmps14
  go_wp2_with fail
  obtain ⟨wo, hwo⟩ : ∃ wo : World, wo = ((w.alloc (.cells #[.int .u64 n, .int .u64 d] 24)).alloc (.cells #[.int .u64 n, .int .u64 d] 29)) := ⟨_, rfl⟩
  rw [← hwo]
  have hA : wo.heap[w.heap.size]? = some (.cells #[.int .u64 n, .int .u64 d] 24 (0, 0)) := by rw [hwo]; exact (by (repeat (first | (with_reducible assumption) | (with_reducible exact alloc_at _ _) | ((with_reducible apply alloc_at'); (simp; done)) | (with_reducible apply alloc_at_lt) | (with_reducible apply heap_drew_at) | (with_reducible apply heap_drewN_at) | (with_reducible apply heap_setCell_same) | ((with_reducible apply heap_set_ne); (first | omega | (dsimp only; omega) | (simp; done) | (simp; omega))) | (with_reducible apply setRow_at) | ((with_reducible apply setRow_ne); (first | omega | (dsimp only; omega) | (simp; done) | (simp; omega))))))
  have hC : wo.heap[w.heap.size + 1]? = some (.cells #[.int .u64 n, .int .u64 d] 29 (0, 0)) := by rw [hwo]; exact (by (repeat (first | (with_reducible assumption) | (with_reducible exact alloc_at _ _) | ((with_reducible apply alloc_at'); (simp; done)) | (with_reducible apply alloc_at_lt) | (with_reducible apply heap_drew_at) | (with_reducible apply heap_drewN_at) | (with_reducible apply heap_setCell_same) | ((with_reducible apply heap_set_ne); (first | omega | (dsimp only; omega) | (simp; done) | (simp; omega))) | (with_reducible apply setRow_at) | ((with_reducible apply setRow_ne); (first | omega | (dsimp only; omega) | (simp; done) | (simp; omega))))))
  have hB0 : Below w.heap.size w wo := by rw [hwo]; exact (by repeat (first | with_reducible assumption | with_reducible exact Below.refl _ _ | with_reducible refine Below.drew ?_ | with_reducible refine below_drewN ?_ _ | with_reducible refine below_alloc ?_ _ | with_reducible refine Below.alloc ?_ (by first | omega | (simp; done) | (simp; omega)) _ | with_reducible refine Below.setCell ?_ (by first | omega | (simp; done) | (simp; omega)) _ | with_reducible refine below_setRow ?_ (by first | omega | (simp; done) | (simp; omega)) _))
  have hs0 := lt_of_at hA
  have hs1 := lt_of_at hC
  have a0 : wo.cell? ⟨w.heap.size, 0, none⟩ = some (.int .u64 n) := (blk_cell hA 0).trans rfl
  have a1 : wo.cell? ⟨w.heap.size, 1, none⟩ = some (.int .u64 d) := (blk_cell hA 1).trans rfl
  have a2 : wo.cell? ⟨w.heap.size + 1, 0, none⟩ = some (.int .u64 n) := (blk_cell hC 0).trans rfl
  have a3 : wo.cell? ⟨w.heap.size + 1, 1, none⟩ = some (.int .u64 d) := (blk_cell hC 1).trans rfl
  clear hwo hA hC
  go_cut [8] (fun s wx => s = .bool true ∧ Below w.heap.size w wx)
  case first =>
    go_region_held3 (fun w' => Below wo.heap.size wo w' ∧ (∀ b o, b < wo.heap.size → w'.cell? ⟨b, o, none⟩ = wo.cell? ⟨b, o, none⟩) ∧ ∀ b o, b < wo.heap.size → w'.frozen? ⟨b, o, none⟩ = wo.frozen? ⟨b, o, none⟩) (first | ((try go_split_ands); (try dsimp only); refine same_of ?_; (repeat (first | with_reducible assumption | with_reducible exact Below.refl _ _ | with_reducible refine Below.drew ?_ | with_reducible refine below_drewN ?_ _ | with_reducible refine below_alloc ?_ _ | with_reducible refine Below.alloc ?_ (by first | omega | (simp; done) | (simp; omega)) _ | with_reducible refine Below.setCell ?_ (by first | omega | (simp; done) | (simp; omega)) _ | with_reducible refine below_setRow ?_ (by first | omega | (simp; done) | (simp; omega)) _)); done) | ((try go_split_ands); (try dsimp only); refine same_of ?_; (repeat (first | with_reducible refine below_call ?_ hb4 | with_reducible assumption | with_reducible exact Below.refl _ _ | with_reducible refine Below.drew ?_ | with_reducible refine below_alloc ?_ _)); done)) (first | (go_at_call 13; refine (plain_any _ _ _).mono ?_; rintro e w4 ⟨rfl, hb4⟩))
    all_goals
      obtain ⟨hb5, -, -⟩ : Below wo.heap.size wo _ ∧ _ ∧ _ := by assumption
      go_wp2_with fail
      go_meet
      exact ⟨by first | rfl | simp, Below.trans hB0 (hb5.mono hB0.size)⟩
  case rest =>
    obtain ⟨rfl, hB⟩ := hcut
    go_wp2
    go_ret
    exact ⟨rfl, (by repeat (first | with_reducible assumption | with_reducible exact Below.refl _ _ | with_reducible refine Below.drew ?_ | with_reducible refine below_drewN ?_ _ | with_reducible refine below_alloc ?_ _ | with_reducible refine Below.alloc ?_ (by first | omega | (simp; done) | (simp; omega)) _ | with_reducible refine Below.setCell ?_ (by first | omega | (simp; done) | (simp; omega)) _ | with_reducible refine below_setRow ?_ (by first | omega | (simp; done) | (simp; omega)) _))⟩
end Go.Proofs.Ytbkopmgfkokmgaa
