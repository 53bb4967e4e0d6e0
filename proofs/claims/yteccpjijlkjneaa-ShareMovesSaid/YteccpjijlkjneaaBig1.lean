/- Contracts of the reference's numbers of 256 bits: up, plus, Of, Compare. Asked: that Of's number is a word. -/
import Derived.Test.YteccpjijlkjneaaProg
import Derived.Test.YteccpjijlkjneaaCls
import Derived.Test.YteccpjijlkjneaaBig
import Derived.Test.YteccpjijlkjneaaRat
import Derived.BigRegion
import Derived.Deep.RegionHeld3
namespace Go.Proofs.Yteccpjijlkjneaa
open Go.RowKit
theorem zeroBig (w : World) : (zeroValue 111).run Try.prog w = .ok (.agg (bigA 0)) w := by kernel_rfl
theorem infoBig : (Try.prog.info? 111).map (·.size) = some 256 := by kernel_rfl
theorem infoBig' (n : Nat) : (Try.prog.info? 111).map (·.size) = some (bigA n).size := by rw [bigA_size]; exact infoBig
attribute [local go_sem ↓] zeroBig
set_option maxRecDepth 100000 in
set_option maxHeartbeats 400000 in
theorem up_any (n : Nat) (w : World) :
    Calls Try.prog 76 #[.agg (bigA n)] w fun e w' => e = .returned (.agg (bigA (2 * n))) ∧ Below w.heap.size w w' := by
  go_enter Try.func76, Try.ntmps76
  go_wp2_with fail
  have hB0 : Below w.heap.size w (((w.alloc (.cells (bigA n) 111)).alloc (.cells (bigA 0) 111)).alloc (.cells (bigA 0) 111)) := (by repeat (first | with_reducible assumption | with_reducible exact Below.refl _ _ | with_reducible refine Below.drew ?_ | with_reducible refine below_drewN ?_ _ | with_reducible refine below_alloc ?_ _ | with_reducible refine Below.alloc ?_ (by first | omega | (simp; done) | (simp; omega)) _ | with_reducible refine Below.setCell ?_ (by first | omega | (simp; done) | (simp; omega)) _ | with_reducible refine below_setRow ?_ (by first | omega | (simp; done) | (simp; omega)) _))
  have h00 : (((w.alloc (.cells (bigA n) 111)).alloc (.cells (bigA 0) 111)).alloc (.cells (bigA 0) 111)).heap[w.heap.size]? = some (.cells (bigA (n)) 111 (0, 0)) := (by (repeat (first | (with_reducible assumption) | (with_reducible exact alloc_at _ _) | ((with_reducible apply alloc_at'); (simp; done)) | (with_reducible apply alloc_at_lt) | (with_reducible apply heap_drew_at) | (with_reducible apply heap_drewN_at) | (with_reducible apply heap_setCell_same) | ((with_reducible apply heap_set_ne); (first | omega | (dsimp only; omega) | (simp; done) | (simp; omega))) | (with_reducible apply setRow_at) | ((with_reducible apply setRow_ne); (first | omega | (dsimp only; omega) | (simp; done) | (simp; omega))))))
  have h01 : (((w.alloc (.cells (bigA n) 111)).alloc (.cells (bigA 0) 111)).alloc (.cells (bigA 0) 111)).heap[w.heap.size + 1]? = some (.cells (bigA (0)) 111 (0, 0)) := (by (repeat (first | (with_reducible assumption) | (with_reducible exact alloc_at _ _) | ((with_reducible apply alloc_at'); (simp; done)) | (with_reducible apply alloc_at_lt) | (with_reducible apply heap_drew_at) | (with_reducible apply heap_drewN_at) | (with_reducible apply heap_setCell_same) | ((with_reducible apply heap_set_ne); (first | omega | (dsimp only; omega) | (simp; done) | (simp; omega))) | (with_reducible apply setRow_at) | ((with_reducible apply setRow_ne); (first | omega | (dsimp only; omega) | (simp; done) | (simp; omega))))))
  have h02 : (((w.alloc (.cells (bigA n) 111)).alloc (.cells (bigA 0) 111)).alloc (.cells (bigA 0) 111)).heap[w.heap.size + 1 + 1]? = some (.cells (bigA (2 * n % 2 ^ 1)) 111 (0, 0)) := by
    rw [show 2 * n % 2 ^ 1 = 0 by omega]; exact (by (repeat (first | (with_reducible assumption) | (with_reducible exact alloc_at _ _) | ((with_reducible apply alloc_at'); (simp; done)) | (with_reducible apply alloc_at_lt) | (with_reducible apply heap_drew_at) | (with_reducible apply heap_drewN_at) | (with_reducible apply heap_setCell_same) | ((with_reducible apply heap_set_ne); (first | omega | (dsimp only; omega) | (simp; done) | (simp; omega))) | (with_reducible apply setRow_at) | ((with_reducible apply setRow_ne); (first | omega | (dsimp only; omega) | (simp; done) | (simp; omega))))))
  go_loopw [4] (fun i wr => ∃ k : Nat, 1 ≤ k ∧ k ≤ 256 ∧ i = .int .i64 k ∧ Below w.heap.size w wr ∧ wr.heap[w.heap.size]? = some (.cells (bigA (n)) 111 (0, 0)) ∧ wr.heap[w.heap.size + 1]? = some (.cells (bigA (0)) 111 (0, 0)) ∧
    wr.heap[w.heap.size + 1 + 1]? = some (.cells (bigA (2 * n % 2 ^ k)) 111 (0, 0))) (fun i _ => 256 - (intOf i).toNat)
  case atStart => exact ⟨1, by omega, by omega, rfl, hB0, h00, h01, h02⟩
  case round =>
    clear hB0 h00 h01 h02
    obtain ⟨k, hk1, hk, rfl, hB, hX, hR, hO⟩ := hrel
    by_cases hlt : k < 256
    · obtain ⟨b, hb, cx⟩ : ∃ b, Hid (b = n.testBit (k - 1)) ∧ wr.cell? ⟨w.heap.size, k - 1, none⟩ = some (.bool b) := ⟨_, rfl, (blk_cell hX _).trans (bigA_get _ _ (by omega))⟩
      obtain ⟨c, co⟩ : ∃ c, wr.cell? ⟨w.heap.size + 1 + 1, k, none⟩ = some (.bool c) := ⟨_, (blk_cell hO _).trans (bigA_get _ _ (by omega))⟩
      have fo := blk_free hO
      have HX := hid hX
      have HR := hid hR
      have HO := hid hO
      clear hX hR hO
      go_wp2
      go_roundw
      case rel =>
        have hX := HX.out
        have hR := HR.out
        refine ⟨k + 1, by omega, by omega, by go_num, (by repeat (first | with_reducible assumption | with_reducible exact Below.refl _ _ | with_reducible refine Below.drew ?_ | with_reducible refine below_drewN ?_ _ | with_reducible refine below_alloc ?_ _ | with_reducible refine Below.alloc ?_ (by first | omega | (simp; done) | (simp; omega)) _ | with_reducible refine Below.setCell ?_ (by first | omega | (simp; done) | (simp; omega)) _ | with_reducible refine below_setRow ?_ (by first | omega | (simp; done) | (simp; omega)) _)), (by (repeat (first | (with_reducible assumption) | (with_reducible exact alloc_at _ _) | ((with_reducible apply alloc_at'); (simp; done)) | (with_reducible apply alloc_at_lt) | (with_reducible apply heap_drew_at) | (with_reducible apply heap_drewN_at) | (with_reducible apply heap_setCell_same) | ((with_reducible apply heap_set_ne); (first | omega | (dsimp only; omega) | (simp; done) | (simp; omega))) | (with_reducible apply setRow_at) | ((with_reducible apply setRow_ne); (first | omega | (dsimp only; omega) | (simp; done) | (simp; omega)))))), (by (repeat (first | (with_reducible assumption) | (with_reducible exact alloc_at _ _) | ((with_reducible apply alloc_at'); (simp; done)) | (with_reducible apply alloc_at_lt) | (with_reducible apply heap_drew_at) | (with_reducible apply heap_drewN_at) | (with_reducible apply heap_setCell_same) | ((with_reducible apply heap_set_ne); (first | omega | (dsimp only; omega) | (simp; done) | (simp; omega))) | (with_reducible apply setRow_at) | ((with_reducible apply setRow_ne); (first | omega | (dsimp only; omega) | (simp; done) | (simp; omega)))))), ?_⟩
        have e := heap_setCell_same wr (w.heap.size + 1 + 1) k _ _ (.bool b) HO.out
        rw [hb.out, ← up_bit, show k - 1 + 1 = k by omega, bigA_step _ _ hlt] at e
        rw [hb.out, ← up_bit, show k - 1 + 1 = k by omega]
        exact e
      case measure => simp [intOf]; omega
    · obtain rfl : k = 256 := by omega
      rw [bigA_mod] at hO
      go_wp2_with (first | (refine wpList_load_row rfl 111 (.tmp 3) rfl (w.heap.size + 1 + 1) (by simp [Act.eval, Act.put]) _ _ _ _ hO Try.underlying111 rfl (infoBig' _) ?_) | (refine wpList_store_row rfl 111 (.tmp 2) (.tmp 15) rfl (w.heap.size + 1) (bigA (2 * n)) (by simp [Act.eval, Act.put]) (by simp [Act.eval, Act.put]) _ _ hR (infoBig' _) (by rw [bigA_size, bigA_size]) (bigA_one _) ?_))
      refine ret_row1 rfl (w.heap.size + 1) (bigA (2 * n)) 111 _ rfl Try.underlying111 rfl (infoBig' _) rfl ⟨_, setRow_at hR _, rfl⟩ ⟨rfl, (by repeat (first | with_reducible assumption | with_reducible exact Below.refl _ _ | with_reducible refine Below.drew ?_ | with_reducible refine below_drewN ?_ _ | with_reducible refine below_alloc ?_ _ | with_reducible refine Below.alloc ?_ (by first | omega | (simp; done) | (simp; omega)) _ | with_reducible refine Below.setCell ?_ (by first | omega | (simp; done) | (simp; omega)) _ | with_reducible refine below_setRow ?_ (by first | omega | (simp; done) | (simp; omega)) _))⟩
set_option maxRecDepth 100000 in
set_option maxHeartbeats 400000 in
theorem plus_any (a b : Nat)  (w : World) :
    Calls Try.prog 75 #[.agg (bigA a), .agg (bigA b)] w fun e w' => e = .returned (.agg (bigA (a + b))) ∧ Below w.heap.size w w' := by
  go_enter Try.func75, Try.ntmps75
  go_wp2_with fail
  have hB0 : Below w.heap.size w ((((w.alloc (.cells (bigA a) 111)).alloc (.cells (bigA b) 111)).alloc (.cells (bigA 0) 111)).alloc (.cells (bigA 0) 111)) := (by repeat (first | with_reducible assumption | with_reducible exact Below.refl _ _ | with_reducible refine Below.drew ?_ | with_reducible refine below_drewN ?_ _ | with_reducible refine below_alloc ?_ _ | with_reducible refine Below.alloc ?_ (by first | omega | (simp; done) | (simp; omega)) _ | with_reducible refine Below.setCell ?_ (by first | omega | (simp; done) | (simp; omega)) _ | with_reducible refine below_setRow ?_ (by first | omega | (simp; done) | (simp; omega)) _))
  have h00 : ((((w.alloc (.cells (bigA a) 111)).alloc (.cells (bigA b) 111)).alloc (.cells (bigA 0) 111)).alloc (.cells (bigA 0) 111)).heap[w.heap.size]? = some (.cells (bigA (a)) 111 (0, 0)) := (by (repeat (first | (with_reducible assumption) | (with_reducible exact alloc_at _ _) | ((with_reducible apply alloc_at'); (simp; done)) | (with_reducible apply alloc_at_lt) | (with_reducible apply heap_drew_at) | (with_reducible apply heap_drewN_at) | (with_reducible apply heap_setCell_same) | ((with_reducible apply heap_set_ne); (first | omega | (dsimp only; omega) | (simp; done) | (simp; omega))) | (with_reducible apply setRow_at) | ((with_reducible apply setRow_ne); (first | omega | (dsimp only; omega) | (simp; done) | (simp; omega))))))
  have h01 : ((((w.alloc (.cells (bigA a) 111)).alloc (.cells (bigA b) 111)).alloc (.cells (bigA 0) 111)).alloc (.cells (bigA 0) 111)).heap[w.heap.size + 1]? = some (.cells (bigA (b)) 111 (0, 0)) := (by (repeat (first | (with_reducible assumption) | (with_reducible exact alloc_at _ _) | ((with_reducible apply alloc_at'); (simp; done)) | (with_reducible apply alloc_at_lt) | (with_reducible apply heap_drew_at) | (with_reducible apply heap_drewN_at) | (with_reducible apply heap_setCell_same) | ((with_reducible apply heap_set_ne); (first | omega | (dsimp only; omega) | (simp; done) | (simp; omega))) | (with_reducible apply setRow_at) | ((with_reducible apply setRow_ne); (first | omega | (dsimp only; omega) | (simp; done) | (simp; omega))))))
  have h02 : ((((w.alloc (.cells (bigA a) 111)).alloc (.cells (bigA b) 111)).alloc (.cells (bigA 0) 111)).alloc (.cells (bigA 0) 111)).heap[w.heap.size + 1 + 1]? = some (.cells (bigA (0)) 111 (0, 0)) := (by (repeat (first | (with_reducible assumption) | (with_reducible exact alloc_at _ _) | ((with_reducible apply alloc_at'); (simp; done)) | (with_reducible apply alloc_at_lt) | (with_reducible apply heap_drew_at) | (with_reducible apply heap_drewN_at) | (with_reducible apply heap_setCell_same) | ((with_reducible apply heap_set_ne); (first | omega | (dsimp only; omega) | (simp; done) | (simp; omega))) | (with_reducible apply setRow_at) | ((with_reducible apply setRow_ne); (first | omega | (dsimp only; omega) | (simp; done) | (simp; omega))))))
  have h03 : ((((w.alloc (.cells (bigA a) 111)).alloc (.cells (bigA b) 111)).alloc (.cells (bigA 0) 111)).alloc (.cells (bigA 0) 111)).heap[w.heap.size + 1 + 1 + 1]? = some (.cells (bigA ((a + b) % 2 ^ 0)) 111 (0, 0)) := by
    rw [Nat.pow_zero, Nat.mod_one]; exact (by (repeat (first | (with_reducible assumption) | (with_reducible exact alloc_at _ _) | ((with_reducible apply alloc_at'); (simp; done)) | (with_reducible apply alloc_at_lt) | (with_reducible apply heap_drew_at) | (with_reducible apply heap_drewN_at) | (with_reducible apply heap_setCell_same) | ((with_reducible apply heap_set_ne); (first | omega | (dsimp only; omega) | (simp; done) | (simp; omega))) | (with_reducible apply setRow_at) | ((with_reducible apply setRow_ne); (first | omega | (dsimp only; omega) | (simp; done) | (simp; omega))))))
  have hc0 := carB_zero a b
  have HC0 := hid hc0
  clear hc0
  go_loopw [6, 7] (fun c i wr => ∃ k : Nat, k ≤ 256 ∧ i = .int .i64 k ∧ c = .bool (carB a b k) ∧ Below w.heap.size w wr ∧ wr.heap[w.heap.size]? = some (.cells (bigA (a)) 111 (0, 0)) ∧ wr.heap[w.heap.size + 1]? = some (.cells (bigA (b)) 111 (0, 0)) ∧ wr.heap[w.heap.size + 1 + 1]? = some (.cells (bigA (0)) 111 (0, 0)) ∧
    wr.heap[w.heap.size + 1 + 1 + 1]? = some (.cells (bigA ((a + b) % 2 ^ k)) 111 (0, 0))) (fun _ i _ => 256 - (intOf i).toNat)
  case atStart => exact ⟨0, by omega, rfl, by rw [HC0.out], hB0, h00, h01, h02, h03⟩
  case round =>
    clear hB0 h00 h01 h02 h03 HC0
    obtain ⟨k, hk, rfl, rfl, hB, hX, hY, hR, hO⟩ := hrel
    by_cases hlt : k < 256
    · obtain ⟨x, hx, cx⟩ : ∃ x, Hid (x = a.testBit k) ∧ wr.cell? ⟨w.heap.size, k, none⟩ = some (.bool x) := ⟨_, rfl, (blk_cell hX _).trans (bigA_get _ _ hlt)⟩
      obtain ⟨y, hy, cy⟩ : ∃ y, Hid (y = b.testBit k) ∧ wr.cell? ⟨w.heap.size + 1, k, none⟩ = some (.bool y) := ⟨_, rfl, (blk_cell hY _).trans (bigA_get _ _ hlt)⟩
      obtain ⟨c, co⟩ : ∃ c, wr.cell? ⟨w.heap.size + 1 + 1 + 1, k, none⟩ = some (.bool c) := ⟨_, (blk_cell hO _).trans (bigA_get _ _ hlt)⟩
      obtain ⟨z, hz⟩ : ∃ z, carB a b k = z := ⟨_, rfl⟩
      have hs := carB_succ a b k
      have hbit := add_bit a b k
      rw [hz, ← hx.out, ← hy.out] at hs hbit
      rw [hz]
      have HS := hid hs
      have HB := hid hbit
      have fo := blk_free hO
      have HX := hid hX
      have HY := hid hY
      have HR := hid hR
      have HO := hid hO
      clear hX hY hR hO hz hs hbit
      cases x <;> cases y <;> cases z
      all_goals
        go_wp2
        go_quiet (fail)
        go_wp2
        go_roundw
        case rel =>
          have hX := HX.out
          have hY := HY.out
          have hR := HR.out
          refine ⟨k + 1, by omega, by go_num, by rw [HS.out]; rfl, (by repeat (first | with_reducible assumption | with_reducible exact Below.refl _ _ | with_reducible refine Below.drew ?_ | with_reducible refine below_drewN ?_ _ | with_reducible refine below_alloc ?_ _ | with_reducible refine Below.alloc ?_ (by first | omega | (simp; done) | (simp; omega)) _ | with_reducible refine Below.setCell ?_ (by first | omega | (simp; done) | (simp; omega)) _ | with_reducible refine below_setRow ?_ (by first | omega | (simp; done) | (simp; omega)) _)), (by (repeat (first | (with_reducible assumption) | (with_reducible exact alloc_at _ _) | ((with_reducible apply alloc_at'); (simp; done)) | (with_reducible apply alloc_at_lt) | (with_reducible apply heap_drew_at) | (with_reducible apply heap_drewN_at) | (with_reducible apply heap_setCell_same) | ((with_reducible apply heap_set_ne); (first | omega | (dsimp only; omega) | (simp; done) | (simp; omega))) | (with_reducible apply setRow_at) | ((with_reducible apply setRow_ne); (first | omega | (dsimp only; omega) | (simp; done) | (simp; omega)))))), (by (repeat (first | (with_reducible assumption) | (with_reducible exact alloc_at _ _) | ((with_reducible apply alloc_at'); (simp; done)) | (with_reducible apply alloc_at_lt) | (with_reducible apply heap_drew_at) | (with_reducible apply heap_drewN_at) | (with_reducible apply heap_setCell_same) | ((with_reducible apply heap_set_ne); (first | omega | (dsimp only; omega) | (simp; done) | (simp; omega))) | (with_reducible apply setRow_at) | ((with_reducible apply setRow_ne); (first | omega | (dsimp only; omega) | (simp; done) | (simp; omega)))))), (by (repeat (first | (with_reducible assumption) | (with_reducible exact alloc_at _ _) | ((with_reducible apply alloc_at'); (simp; done)) | (with_reducible apply alloc_at_lt) | (with_reducible apply heap_drew_at) | (with_reducible apply heap_drewN_at) | (with_reducible apply heap_setCell_same) | ((with_reducible apply heap_set_ne); (first | omega | (dsimp only; omega) | (simp; done) | (simp; omega))) | (with_reducible apply setRow_at) | ((with_reducible apply setRow_ne); (first | omega | (dsimp only; omega) | (simp; done) | (simp; omega)))))), ?_⟩
          have e := heap_setCell_same (wr.drewN nq) (w.heap.size + 1 + 1 + 1) k _ _ (.bool ((a + b).testBit k)) HO.out
          rw [bigA_step _ _ hlt, HB.out] at e
          exact e
        case measure => simp [intOf]; omega
    · obtain rfl : k = 256 := by omega
      rw [bigA_mod] at hO
      go_wp2_with (first | (refine wpList_load_row rfl 111 (.tmp 5) rfl (w.heap.size + 1 + 1 + 1) (by simp [Act.eval, Act.put]) _ _ _ _ hO Try.underlying111 rfl (infoBig' _) ?_) | (refine wpList_store_row rfl 111 (.tmp 4) (.tmp 40) rfl (w.heap.size + 1 + 1) (bigA (a + b)) (by simp [Act.eval, Act.put]) (by simp [Act.eval, Act.put]) _ _ hR (infoBig' _) (by rw [bigA_size, bigA_size]) (bigA_one _) ?_))
      refine ret_row1 rfl (w.heap.size + 1 + 1) (bigA (a + b)) 111 _ rfl Try.underlying111 rfl (infoBig' _) rfl ⟨_, setRow_at hR _, rfl⟩ ⟨rfl, (by repeat (first | with_reducible assumption | with_reducible exact Below.refl _ _ | with_reducible refine Below.drew ?_ | with_reducible refine below_drewN ?_ _ | with_reducible refine below_alloc ?_ _ | with_reducible refine Below.alloc ?_ (by first | omega | (simp; done) | (simp; omega)) _ | with_reducible refine Below.setCell ?_ (by first | omega | (simp; done) | (simp; omega)) _ | with_reducible refine below_setRow ?_ (by first | omega | (simp; done) | (simp; omega)) _))⟩
end Go.Proofs.Yteccpjijlkjneaa
