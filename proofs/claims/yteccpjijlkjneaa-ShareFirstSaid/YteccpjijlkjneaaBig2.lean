/- Contracts of the reference's numbers of 256 bits: up, plus, Of, Compare. Asked: that Of's number is a word. -/
import Derived.Test.YteccpjijlkjneaaProg
import Derived.Test.YteccpjijlkjneaaCls
import Derived.Test.YteccpjijlkjneaaBig1
import Derived.Test.YteccpjijlkjneaaRat
import Derived.BigRegion
import Derived.Deep.RegionHeld3
namespace Go.Proofs.Yteccpjijlkjneaa
open Go.RowKit
attribute [local go_sem ↓] zeroBig
theorem of_bit (n k : Nat) (hn : n < 18446744073709551616) : (bits BinOp.and IntKind.u64 ((n : Int) / 2 ^ k) 1 == 1) = n.testBit k := by
  have e : ((n : Int) / 2 ^ k) = ((n / 2 ^ k : Nat) : Int) := by rw [Int.natCast_ediv, Int.natCast_pow]; rfl
  have h : n / 2 ^ k ≤ n := Nat.div_le_self _ _
  rw [e, bit_eq]
  generalize n / 2 ^ k = m at *
  rw [and_one_u64 _ (by omega) (by omega), Bool.eq_iff_iff]
  simp
  omega
set_option maxRecDepth 100000 in
set_option maxHeartbeats 400000 in
theorem of_any (n : Nat) (w : World) (hn : n < 18446744073709551616) :
    Calls Try.prog 64 #[.int .u64 n] w fun e w' => e = .returned (.agg (bigA n)) ∧ Below w.heap.size w w' := by
  have h64 : n % 2 ^ 64 = n := Nat.mod_eq_of_lt hn
  have H64 := hid h64
  clear h64
  go_enter Try.func64, Try.ntmps64
  go_wp2_with fail
  have hB0 : Below w.heap.size w ((w.alloc (.cells (bigA 0) 111)).alloc (.cells (bigA 0) 111)) := (by repeat (first | with_reducible assumption | with_reducible exact Below.refl _ _ | with_reducible refine Below.drew ?_ | with_reducible refine below_drewN ?_ _ | with_reducible refine below_alloc ?_ _ | with_reducible refine Below.alloc ?_ (by first | omega | (simp; done) | (simp; omega)) _ | with_reducible refine Below.setCell ?_ (by first | omega | (simp; done) | (simp; omega)) _ | with_reducible refine below_setRow ?_ (by first | omega | (simp; done) | (simp; omega)) _))
  have h00 : ((w.alloc (.cells (bigA 0) 111)).alloc (.cells (bigA 0) 111)).heap[w.heap.size]? = some (.cells (bigA (0)) 111 (0, 0)) := (by (repeat (first | (with_reducible assumption) | (with_reducible exact alloc_at _ _) | ((with_reducible apply alloc_at'); (simp; done)) | (with_reducible apply alloc_at_lt) | (with_reducible apply heap_drew_at) | (with_reducible apply heap_drewN_at) | (with_reducible apply heap_setCell_same) | ((with_reducible apply heap_set_ne); (first | omega | (dsimp only; omega) | (simp; done) | (simp; omega))) | (with_reducible apply setRow_at) | ((with_reducible apply setRow_ne); (first | omega | (dsimp only; omega) | (simp; done) | (simp; omega))))))
  have h01 : ((w.alloc (.cells (bigA 0) 111)).alloc (.cells (bigA 0) 111)).heap[w.heap.size + 1]? = some (.cells (bigA (n % 2 ^ 0)) 111 (0, 0)) := by
    rw [Nat.pow_zero, Nat.mod_one]; exact (by (repeat (first | (with_reducible assumption) | (with_reducible exact alloc_at _ _) | ((with_reducible apply alloc_at'); (simp; done)) | (with_reducible apply alloc_at_lt) | (with_reducible apply heap_drew_at) | (with_reducible apply heap_drewN_at) | (with_reducible apply heap_setCell_same) | ((with_reducible apply heap_set_ne); (first | omega | (dsimp only; omega) | (simp; done) | (simp; omega))) | (with_reducible apply setRow_at) | ((with_reducible apply setRow_ne); (first | omega | (dsimp only; omega) | (simp; done) | (simp; omega))))))
  go_loopw [4] (fun i wr => ∃ k : Nat, k ≤ 64 ∧ i = .int .i64 k ∧ Below w.heap.size w wr ∧ wr.heap[w.heap.size]? = some (.cells (bigA (0)) 111 (0, 0)) ∧
    wr.heap[w.heap.size + 1]? = some (.cells (bigA (n % 2 ^ k)) 111 (0, 0))) (fun i _ => 64 - (intOf i).toNat)
  case atStart => exact ⟨0, by omega, rfl, hB0, h00, h01⟩
  case round =>
    clear hB0 h00 h01
    obtain ⟨k, hk, rfl, hB, hR, hO⟩ := hrel
    by_cases hlt : k < 64
    · obtain ⟨c, co⟩ : ∃ c, wr.cell? ⟨w.heap.size + 1, k, none⟩ = some (.bool c) := ⟨_, (blk_cell hO _).trans (bigA_get _ _ (by omega))⟩
      have fo := blk_free hO
      have HR := hid hR
      have HO := hid hO
      clear hR hO
      go_wp2
      go_roundw
      case rel =>
        have hR := HR.out
        rw [of_bit n k hn]
        refine ⟨k + 1, by omega, by go_num, (by repeat (first | with_reducible assumption | with_reducible exact Below.refl _ _ | with_reducible refine Below.drew ?_ | with_reducible refine below_drewN ?_ _ | with_reducible refine below_alloc ?_ _ | with_reducible refine Below.alloc ?_ (by first | omega | (simp; done) | (simp; omega)) _ | with_reducible refine Below.setCell ?_ (by first | omega | (simp; done) | (simp; omega)) _ | with_reducible refine below_setRow ?_ (by first | omega | (simp; done) | (simp; omega)) _)), (by (repeat (first | (with_reducible assumption) | (with_reducible exact alloc_at _ _) | ((with_reducible apply alloc_at'); (simp; done)) | (with_reducible apply alloc_at_lt) | (with_reducible apply heap_drew_at) | (with_reducible apply heap_drewN_at) | (with_reducible apply heap_setCell_same) | ((with_reducible apply heap_set_ne); (first | omega | (dsimp only; omega) | (simp; done) | (simp; omega))) | (with_reducible apply setRow_at) | ((with_reducible apply setRow_ne); (first | omega | (dsimp only; omega) | (simp; done) | (simp; omega)))))), ?_⟩
        have e := heap_setCell_same wr (w.heap.size + 1) k _ _ (.bool (n.testBit k)) HO.out
        rw [bigA_step _ _ (by omega)] at e
        exact e
      case measure => simp [intOf]; omega
    · obtain rfl : k = 64 := by omega
      rw [H64.out] at hO
      go_wp2_with (first | (refine wpList_load_row rfl 111 (.tmp 3) rfl (w.heap.size + 1) (by simp [Act.eval, Act.put]) _ _ _ _ hO Try.underlying111 rfl (infoBig' _) ?_) | (refine wpList_store_row rfl 111 (.tmp 2) (.tmp 17) rfl (w.heap.size) (bigA (n)) (by simp [Act.eval, Act.put]) (by simp [Act.eval, Act.put]) _ _ hR (infoBig' _) (by rw [bigA_size, bigA_size]) (bigA_one _) ?_))
      refine ret_row1 rfl (w.heap.size) (bigA (n)) 111 _ rfl Try.underlying111 rfl (infoBig' _) rfl ⟨_, setRow_at hR _, rfl⟩ ⟨rfl, (by repeat (first | with_reducible assumption | with_reducible exact Below.refl _ _ | with_reducible refine Below.drew ?_ | with_reducible refine below_drewN ?_ _ | with_reducible refine below_alloc ?_ _ | with_reducible refine Below.alloc ?_ (by first | omega | (simp; done) | (simp; omega)) _ | with_reducible refine Below.setCell ?_ (by first | omega | (simp; done) | (simp; omega)) _ | with_reducible refine below_setRow ?_ (by first | omega | (simp; done) | (simp; omega)) _))⟩
set_option maxRecDepth 100000 in
set_option maxHeartbeats 400000 in
theorem compare_any (a b : Nat) (w : World) (ha : a < 2 ^ 256) (hb : b < 2 ^ 256) :
    Calls Try.prog 63 #[.agg (bigA a), .agg (bigA b)] w fun e w' => e = .returned (.int .i64 (cmpZ a b)) ∧ Below w.heap.size w w' := by
  have h0 : a / 2 ^ 256 = b / 2 ^ 256 := by rw [Nat.div_eq_of_lt ha, Nat.div_eq_of_lt hb]
  have H0 := hid h0
  clear h0 ha hb
  go_enter Try.func63, Try.ntmps63
  go_wp2_with fail
  have hB0 : Below w.heap.size w ((w.alloc (.cells (bigA a) 111)).alloc (.cells (bigA b) 111)) := (by repeat (first | with_reducible assumption | with_reducible exact Below.refl _ _ | with_reducible refine Below.drew ?_ | with_reducible refine below_drewN ?_ _ | with_reducible refine below_alloc ?_ _ | with_reducible refine Below.alloc ?_ (by first | omega | (simp; done) | (simp; omega)) _ | with_reducible refine Below.setCell ?_ (by first | omega | (simp; done) | (simp; omega)) _ | with_reducible refine below_setRow ?_ (by first | omega | (simp; done) | (simp; omega)) _))
  have h00 : ((w.alloc (.cells (bigA a) 111)).alloc (.cells (bigA b) 111)).heap[w.heap.size]? = some (.cells (bigA (a)) 111 (0, 0)) := (by (repeat (first | (with_reducible assumption) | (with_reducible exact alloc_at _ _) | ((with_reducible apply alloc_at'); (simp; done)) | (with_reducible apply alloc_at_lt) | (with_reducible apply heap_drew_at) | (with_reducible apply heap_drewN_at) | (with_reducible apply heap_setCell_same) | ((with_reducible apply heap_set_ne); (first | omega | (dsimp only; omega) | (simp; done) | (simp; omega))) | (with_reducible apply setRow_at) | ((with_reducible apply setRow_ne); (first | omega | (dsimp only; omega) | (simp; done) | (simp; omega))))))
  have h01 : ((w.alloc (.cells (bigA a) 111)).alloc (.cells (bigA b) 111)).heap[w.heap.size + 1]? = some (.cells (bigA (b)) 111 (0, 0)) := (by (repeat (first | (with_reducible assumption) | (with_reducible exact alloc_at _ _) | ((with_reducible apply alloc_at'); (simp; done)) | (with_reducible apply alloc_at_lt) | (with_reducible apply heap_drew_at) | (with_reducible apply heap_drewN_at) | (with_reducible apply heap_setCell_same) | ((with_reducible apply heap_set_ne); (first | omega | (dsimp only; omega) | (simp; done) | (simp; omega))) | (with_reducible apply setRow_at) | ((with_reducible apply setRow_ne); (first | omega | (dsimp only; omega) | (simp; done) | (simp; omega))))))
  go_loopw [5] (fun i wr => ∃ k : Nat, k ≤ 256 ∧ i = .int .i64 ((k : Int) - 1) ∧ Hid (a / 2 ^ k = b / 2 ^ k) ∧ Below w.heap.size w wr ∧ wr.heap[w.heap.size]? = some (.cells (bigA (a)) 111 (0, 0)) ∧ wr.heap[w.heap.size + 1]? = some (.cells (bigA (b)) 111 (0, 0)))
    (fun i _ => (intOf i + 1).toNat)
  case atStart => exact ⟨256, by omega, by go_num, H0, hB0, h00, h01⟩
  case round =>
    clear hB0 h00 h01 H0
    obtain ⟨k, hk, rfl, HE, hB, hX, hY⟩ := hrel
    by_cases hlt : 0 < k
    · obtain ⟨j, rfl⟩ : ∃ j, k = j + 1 := ⟨k - 1, by omega⟩
      rw [show ((j + 1 : Nat) : Int) - 1 = (j : Int) by omega]
      obtain ⟨x, hx, cx⟩ : ∃ x, Hid (x = a.testBit j) ∧ wr.cell? ⟨w.heap.size, j, none⟩ = some (.bool x) := ⟨_, rfl, (blk_cell hX _).trans (bigA_get _ _ (by omega))⟩
      obtain ⟨y, hy, cy⟩ : ∃ y, Hid (y = b.testBit j) ∧ wr.cell? ⟨w.heap.size + 1, j, none⟩ = some (.bool y) := ⟨_, rfl, (blk_cell hY _).trans (bigA_get _ _ (by omega))⟩
      have HX := hid hX
      have HY := hid hY
      clear hX hY
      cases x <;> cases y
      · have hn := hi_step HE.out (hx.out.symm.trans hy.out)
        have HN := hid hn
        clear hn
        go_wp2
        go_quiet (fail)
        go_wp2
        go_roundw
        case rel => exact ⟨j, by omega, by go_num, HN, (by repeat (first | with_reducible assumption | with_reducible exact Below.refl _ _ | with_reducible refine Below.drew ?_ | with_reducible refine below_drewN ?_ _ | with_reducible refine below_alloc ?_ _ | with_reducible refine Below.alloc ?_ (by first | omega | (simp; done) | (simp; omega)) _ | with_reducible refine Below.setCell ?_ (by first | omega | (simp; done) | (simp; omega)) _ | with_reducible refine below_setRow ?_ (by first | omega | (simp; done) | (simp; omega)) _)), HX.out, HY.out⟩
        case measure => first | (simp [intOf]; done) | (simp [intOf]; omega)
      · have hl : cmpZ a b = -1 := by
          have := lt_of_bits HE.out hx.out.symm hy.out.symm
          unfold cmpZ; rw [if_pos (by omega)]
        have HL := hid hl
        clear hl
        go_wp2
        go_quiet (fail)
        go_wp2
        go_ret
        exact ⟨by rw [HL.out]; rfl, (by repeat (first | with_reducible assumption | with_reducible exact Below.refl _ _ | with_reducible refine Below.drew ?_ | with_reducible refine below_drewN ?_ _ | with_reducible refine below_alloc ?_ _ | with_reducible refine Below.alloc ?_ (by first | omega | (simp; done) | (simp; omega)) _ | with_reducible refine Below.setCell ?_ (by first | omega | (simp; done) | (simp; omega)) _ | with_reducible refine below_setRow ?_ (by first | omega | (simp; done) | (simp; omega)) _))⟩
      · have hl : cmpZ a b = 1 := by
          have := lt_of_bits HE.out.symm hy.out.symm hx.out.symm
          unfold cmpZ; rw [if_neg (by omega), if_pos (by omega)]
        have HL := hid hl
        clear hl
        go_wp2
        go_quiet (fail)
        go_wp2
        go_ret
        exact ⟨by rw [HL.out]; rfl, (by repeat (first | with_reducible assumption | with_reducible exact Below.refl _ _ | with_reducible refine Below.drew ?_ | with_reducible refine below_drewN ?_ _ | with_reducible refine below_alloc ?_ _ | with_reducible refine Below.alloc ?_ (by first | omega | (simp; done) | (simp; omega)) _ | with_reducible refine Below.setCell ?_ (by first | omega | (simp; done) | (simp; omega)) _ | with_reducible refine below_setRow ?_ (by first | omega | (simp; done) | (simp; omega)) _))⟩
      · have hn := hi_step HE.out (hx.out.symm.trans hy.out)
        have HN := hid hn
        clear hn
        go_wp2
        go_quiet (fail)
        go_wp2
        go_roundw
        case rel => exact ⟨j, by omega, by go_num, HN, (by repeat (first | with_reducible assumption | with_reducible exact Below.refl _ _ | with_reducible refine Below.drew ?_ | with_reducible refine below_drewN ?_ _ | with_reducible refine below_alloc ?_ _ | with_reducible refine Below.alloc ?_ (by first | omega | (simp; done) | (simp; omega)) _ | with_reducible refine Below.setCell ?_ (by first | omega | (simp; done) | (simp; omega)) _ | with_reducible refine below_setRow ?_ (by first | omega | (simp; done) | (simp; omega)) _)), HX.out, HY.out⟩
        case measure => first | (simp [intOf]; done) | (simp [intOf]; omega)
    · obtain rfl : k = 0 := by omega
      have hl : cmpZ a b = 0 := by
        have := HE.out
        rw [Nat.pow_zero, Nat.div_one, Nat.div_one] at this
        rw [this]; unfold cmpZ; simp
      have HL := hid hl
      clear hl
      rw [show ((0 : Nat) : Int) - 1 = -1 by omega]
      go_wp2
      go_ret
      exact ⟨by rw [HL.out]; rfl, (by repeat (first | with_reducible assumption | with_reducible exact Below.refl _ _ | with_reducible refine Below.drew ?_ | with_reducible refine below_drewN ?_ _ | with_reducible refine below_alloc ?_ _ | with_reducible refine Below.alloc ?_ (by first | omega | (simp; done) | (simp; omega)) _ | with_reducible refine Below.setCell ?_ (by first | omega | (simp; done) | (simp; omega)) _ | with_reducible refine below_setRow ?_ (by first | omega | (simp; done) | (simp; omega)) _))⟩
end Go.Proofs.Yteccpjijlkjneaa
