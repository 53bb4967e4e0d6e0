/- Contracts of the reference's numbers of 256 bits: up, plus, Of, Compare. Asked: that Of's number is a word. -/
import Derived.Test.YteccpjijlkjneaaProg
import Derived.Test.YteccpjijlkjneaaCls
import Derived.Test.YteccpjijlkjneaaBig2
import Derived.Test.YteccpjijlkjneaaRat
import Derived.BigRegion
import Derived.Deep.RegionHeld3
namespace Go.Proofs.Yteccpjijlkjneaa
open Go.RowKit
attribute [local go_sem ↓] zeroBig
set_option maxRecDepth 100000 in
set_option maxHeartbeats 1000000 in
theorem times_any (a n : Nat) (w : World) (hn : n < 18446744073709551616) :
    Calls Try.prog 65 #[.agg (bigA a), .int .u64 n] w fun e w' => e = .returned (.agg (bigA (a * n))) ∧ Below w.heap.size w w' := by
  have h64 : n % 2 ^ 64 = n := Nat.mod_eq_of_lt hn
  have H64 := hid h64
  clear h64
  go_enter Try.func65, Try.ntmps65
  go_wp2_with fail
  have hB0 : Below w.heap.size w (((w.alloc (.cells (bigA a) 111)).alloc (.cells (bigA 0) 111)).alloc (.cells (bigA 0) 111)) := (by repeat (first | with_reducible assumption | with_reducible exact Below.refl _ _ | with_reducible refine Below.drew ?_ | with_reducible refine below_drewN ?_ _ | with_reducible refine below_alloc ?_ _ | with_reducible refine Below.alloc ?_ (by first | omega | (simp; done) | (simp; omega)) _ | with_reducible refine Below.setCell ?_ (by first | omega | (simp; done) | (simp; omega)) _ | with_reducible refine below_setRow ?_ (by first | omega | (simp; done) | (simp; omega)) _))
  have h00 : (((w.alloc (.cells (bigA a) 111)).alloc (.cells (bigA 0) 111)).alloc (.cells (bigA 0) 111)).heap[w.heap.size]? = some (.cells (bigA (a * 2 ^ 0)) 111 (0, 0)) := by
    rw [Nat.pow_zero, Nat.mul_one]; exact (by (repeat (first | (with_reducible assumption) | (with_reducible exact alloc_at _ _) | ((with_reducible apply alloc_at'); (simp; done)) | (with_reducible apply alloc_at_lt) | (with_reducible apply heap_drew_at) | (with_reducible apply heap_drewN_at) | (with_reducible apply heap_setCell_same) | ((with_reducible apply heap_set_ne); (first | omega | (dsimp only; omega) | (simp; done) | (simp; omega))) | (with_reducible apply setRow_at) | ((with_reducible apply setRow_ne); (first | omega | (dsimp only; omega) | (simp; done) | (simp; omega))))))
  have h01 : (((w.alloc (.cells (bigA a) 111)).alloc (.cells (bigA 0) 111)).alloc (.cells (bigA 0) 111)).heap[w.heap.size + 1]? = some (.cells (bigA (0)) 111 (0, 0)) := (by (repeat (first | (with_reducible assumption) | (with_reducible exact alloc_at _ _) | ((with_reducible apply alloc_at'); (simp; done)) | (with_reducible apply alloc_at_lt) | (with_reducible apply heap_drew_at) | (with_reducible apply heap_drewN_at) | (with_reducible apply heap_setCell_same) | ((with_reducible apply heap_set_ne); (first | omega | (dsimp only; omega) | (simp; done) | (simp; omega))) | (with_reducible apply setRow_at) | ((with_reducible apply setRow_ne); (first | omega | (dsimp only; omega) | (simp; done) | (simp; omega))))))
  have h02 : (((w.alloc (.cells (bigA a) 111)).alloc (.cells (bigA 0) 111)).alloc (.cells (bigA 0) 111)).heap[w.heap.size + 1 + 1]? = some (.cells (bigA (a * (n % 2 ^ 0))) 111 (0, 0)) := by
    rw [Nat.pow_zero, Nat.mod_one, Nat.mul_zero]; exact (by (repeat (first | (with_reducible assumption) | (with_reducible exact alloc_at _ _) | ((with_reducible apply alloc_at'); (simp; done)) | (with_reducible apply alloc_at_lt) | (with_reducible apply heap_drew_at) | (with_reducible apply heap_drewN_at) | (with_reducible apply heap_setCell_same) | ((with_reducible apply heap_set_ne); (first | omega | (dsimp only; omega) | (simp; done) | (simp; omega))) | (with_reducible apply setRow_at) | ((with_reducible apply setRow_ne); (first | omega | (dsimp only; omega) | (simp; done) | (simp; omega))))))
  go_loopw [6] (fun i wr => ∃ k : Nat, k ≤ 64 ∧ i = .int .i64 k ∧ Below w.heap.size w wr ∧ wr.heap[w.heap.size]? = some (.cells (bigA (a * 2 ^ k)) 111 (0, 0)) ∧ wr.heap[w.heap.size + 1]? = some (.cells (bigA (0)) 111 (0, 0)) ∧
    wr.heap[w.heap.size + 1 + 1]? = some (.cells (bigA (a * (n % 2 ^ k))) 111 (0, 0))) (fun i _ => 64 - (intOf i).toNat)
  case atStart => exact ⟨0, by omega, rfl, hB0, h00, h01, h02⟩
  case round =>
    clear hB0 h00 h01 h02
    obtain ⟨k, hk, rfl, hB, hX, hR, hO⟩ := hrel
    have hl1 := lt_of_at hX
    have hl2 := lt_of_at hO
    by_cases hlt : k < 64
    · have HX := hid hX
      have HR := hid hR
      have HO := hid hO
      clear hX hR hO
      have hbit := of_bit n k hn
      cases ht : n.testBit k
      · rw [ht] at hbit
        have HT := hid ht
        clear ht
        go_wp2_with (first | (refine wpList_load_row rfl 111 (.tmp 2) rfl (w.heap.size) (by simp [Act.eval, Act.put]) _ _ _ _ HX.out Try.underlying111 rfl (infoBig' _) ?_))
        refine (up_any _ _).mono ?_
        rintro e w2 ⟨rfl, hb2⟩
        have hs2 := hb2.size
        try simp only [size_setRow] at hs2
        have X3 : w2.heap[w.heap.size]? = some (.cells (bigA (a * 2 ^ k)) 111 (0, 0)) := below_at hb2 (by first | omega | (simp; done) | (simp; omega)) HX.out
        have R3 : w2.heap[w.heap.size + 1]? = some (.cells (bigA (0)) 111 (0, 0)) := below_at hb2 (by first | omega | (simp; done) | (simp; omega)) HR.out
        have O3 : w2.heap[w.heap.size + 1 + 1]? = some (.cells (bigA (a * (n % 2 ^ k))) 111 (0, 0)) := below_at hb2 (by first | omega | (simp; done) | (simp; omega)) HO.out
        have B3 : Below w.heap.size w w2 := Below.trans (by repeat (first | with_reducible assumption | with_reducible exact Below.refl _ _ | with_reducible refine Below.drew ?_ | with_reducible refine below_drewN ?_ _ | with_reducible refine below_alloc ?_ _ | with_reducible refine Below.alloc ?_ (by first | omega | (simp; done) | (simp; omega)) _ | with_reducible refine Below.setCell ?_ (by first | omega | (simp; done) | (simp; omega)) _ | with_reducible refine below_setRow ?_ (by first | omega | (simp; done) | (simp; omega)) _)) (hb2.mono (by first | omega | (simp; done) | (simp; omega)))
        clear hb2
        have HX3 := hid X3
        have HR3 := hid R3
        have HO3 := hid O3
        clear X3 R3 O3
        go_wp2_with (first | (refine wpList_store_row rfl 111 (.tmp 2) (.tmp 21) rfl (w.heap.size) (bigA (2 * (a * 2 ^ k))) (by simp [Act.eval]) (by simp [Act.eval]) _ _ HX3.out (infoBig' _) (by rw [bigA_size, bigA_size]) (bigA_one _) ?_))
        go_roundw
        case rel =>
          have X3 := HX3.out
          have R3 := HR3.out
          have O3 := HO3.out
          refine ⟨k + 1, by omega, by go_num, (by repeat (first | with_reducible assumption | with_reducible exact Below.refl _ _ | with_reducible refine Below.drew ?_ | with_reducible refine below_drewN ?_ _ | with_reducible refine below_alloc ?_ _ | with_reducible refine Below.alloc ?_ (by first | omega | (simp; done) | (simp; omega)) _ | with_reducible refine Below.setCell ?_ (by first | omega | (simp; done) | (simp; omega)) _ | with_reducible refine below_setRow ?_ (by first | omega | (simp; done) | (simp; omega)) _)), ?_, (by (repeat (first | (with_reducible assumption) | (with_reducible exact alloc_at _ _) | ((with_reducible apply alloc_at'); (simp; done)) | (with_reducible apply alloc_at_lt) | (with_reducible apply heap_drew_at) | (with_reducible apply heap_drewN_at) | (with_reducible apply heap_setCell_same) | ((with_reducible apply heap_set_ne); (first | omega | (dsimp only; omega) | (simp; done) | (simp; omega))) | (with_reducible apply setRow_at) | ((with_reducible apply setRow_ne); (first | omega | (dsimp only; omega) | (simp; done) | (simp; omega)))))), ?_⟩
          · rw [show a * 2 ^ (k + 1) = 2 * (a * 2 ^ k) by rw [Nat.pow_succ, Nat.mul_comm (2 ^ k) 2, Nat.mul_left_comm]]
            exact setRow_at X3 _
          · rw [mul_step, HT.out]
            first | exact setRow_ne (by omega) O3 _ | (simp only [Nat.add_zero, if_true, if_false, Bool.false_eq_true]; exact setRow_ne (by omega) O3 _)
        case measure => first | (simp [intOf]; done) | (simp [intOf]; omega)
      · rw [ht] at hbit
        have HT := hid ht
        clear ht
        go_wp2_with (first | (refine wpList_load_row rfl 111 (.tmp 5) rfl (w.heap.size + 1 + 1) (by simp [Act.eval, Act.put]) _ _ _ _ HO.out Try.underlying111 rfl (infoBig' _) ?_) | (refine wpList_load_row rfl 111 (.tmp 2) rfl (w.heap.size) (by simp [Act.eval, Act.put]) _ _ _ _ HX.out Try.underlying111 rfl (infoBig' _) ?_))
        refine (plus_any _ _ _).mono ?_
        rintro e w1 ⟨rfl, hb1⟩
        have hs1 := hb1.size
        have X1 : w1.heap[w.heap.size]? = some (.cells (bigA (a * 2 ^ k)) 111 (0, 0)) := below_at hb1 (by first | omega | (simp; done) | (simp; omega)) HX.out
        have R1 : w1.heap[w.heap.size + 1]? = some (.cells (bigA (0)) 111 (0, 0)) := below_at hb1 (by first | omega | (simp; done) | (simp; omega)) HR.out
        have O1 : w1.heap[w.heap.size + 1 + 1]? = some (.cells (bigA (a * (n % 2 ^ k))) 111 (0, 0)) := below_at hb1 (by first | omega | (simp; done) | (simp; omega)) HO.out
        have B1 : Below w.heap.size w w1 := Below.trans (by repeat (first | with_reducible assumption | with_reducible exact Below.refl _ _ | with_reducible refine Below.drew ?_ | with_reducible refine below_drewN ?_ _ | with_reducible refine below_alloc ?_ _ | with_reducible refine Below.alloc ?_ (by first | omega | (simp; done) | (simp; omega)) _ | with_reducible refine Below.setCell ?_ (by first | omega | (simp; done) | (simp; omega)) _ | with_reducible refine below_setRow ?_ (by first | omega | (simp; done) | (simp; omega)) _)) (hb1.mono (by first | omega | (simp; done) | (simp; omega)))
        clear hb1
        have X2 : (w1.setRow (w.heap.size + 1 + 1) (bigA (a * (n % 2 ^ k) + a * 2 ^ k))).heap[w.heap.size]? = some (.cells (bigA (a * 2 ^ k)) 111 (0, 0)) := setRow_ne (by omega) X1 _
        have R2 : (w1.setRow (w.heap.size + 1 + 1) (bigA (a * (n % 2 ^ k) + a * 2 ^ k))).heap[w.heap.size + 1]? = some (.cells (bigA (0)) 111 (0, 0)) := setRow_ne (by omega) R1 _
        have O2 : (w1.setRow (w.heap.size + 1 + 1) (bigA (a * (n % 2 ^ k) + a * 2 ^ k))).heap[w.heap.size + 1 + 1]? = some (.cells (bigA (a * (n % 2 ^ k) + a * 2 ^ k)) 111 (0, 0)) := setRow_at O1 _
        have HO1 := hid O1
        have HX2 := hid X2
        have HR2 := hid R2
        have HO2 := hid O2
        clear X1 R1 O1 X2 R2 O2
        go_wp2_with (first | (refine wpList_store_row rfl 111 (.tmp 5) (.tmp 19) rfl (w.heap.size + 1 + 1) (bigA (a * (n % 2 ^ k) + a * 2 ^ k)) (by simp [Act.eval]) (by simp [Act.eval]) _ _ HO1.out (infoBig' _) (by rw [bigA_size, bigA_size]) (bigA_one _) ?_) | (refine wpList_load_row rfl 111 (.tmp 2) rfl (w.heap.size) (by simp [Act.eval, Act.put]) _ _ _ _ HX2.out Try.underlying111 rfl (infoBig' _) ?_))
        refine (up_any _ _).mono ?_
        rintro e w2 ⟨rfl, hb2⟩
        have hs2 := hb2.size
        try simp only [size_setRow] at hs2
        have X3 : w2.heap[w.heap.size]? = some (.cells (bigA (a * 2 ^ k)) 111 (0, 0)) := below_at hb2 (by first | omega | (simp; done) | (simp; omega)) HX2.out
        have R3 : w2.heap[w.heap.size + 1]? = some (.cells (bigA (0)) 111 (0, 0)) := below_at hb2 (by first | omega | (simp; done) | (simp; omega)) HR2.out
        have O3 : w2.heap[w.heap.size + 1 + 1]? = some (.cells (bigA (a * (n % 2 ^ k) + a * 2 ^ k)) 111 (0, 0)) := below_at hb2 (by first | omega | (simp; done) | (simp; omega)) HO2.out
        have B3 : Below w.heap.size w w2 := Below.trans (by repeat (first | with_reducible assumption | with_reducible exact Below.refl _ _ | with_reducible refine Below.drew ?_ | with_reducible refine below_drewN ?_ _ | with_reducible refine below_alloc ?_ _ | with_reducible refine Below.alloc ?_ (by first | omega | (simp; done) | (simp; omega)) _ | with_reducible refine Below.setCell ?_ (by first | omega | (simp; done) | (simp; omega)) _ | with_reducible refine below_setRow ?_ (by first | omega | (simp; done) | (simp; omega)) _)) (hb2.mono (by first | omega | (simp; done) | (simp; omega)))
        clear hb2
        have HX3 := hid X3
        have HR3 := hid R3
        have HO3 := hid O3
        clear X3 R3 O3
        go_wp2_with (first | (refine wpList_store_row rfl 111 (.tmp 2) (.tmp 21) rfl (w.heap.size) (bigA (2 * (a * 2 ^ k))) (by simp [Act.eval]) (by simp [Act.eval]) _ _ HX3.out (infoBig' _) (by rw [bigA_size, bigA_size]) (bigA_one _) ?_))
        go_roundw
        case rel =>
          have X3 := HX3.out
          have R3 := HR3.out
          have O3 := HO3.out
          refine ⟨k + 1, by omega, by go_num, (by repeat (first | with_reducible assumption | with_reducible exact Below.refl _ _ | with_reducible refine Below.drew ?_ | with_reducible refine below_drewN ?_ _ | with_reducible refine below_alloc ?_ _ | with_reducible refine Below.alloc ?_ (by first | omega | (simp; done) | (simp; omega)) _ | with_reducible refine Below.setCell ?_ (by first | omega | (simp; done) | (simp; omega)) _ | with_reducible refine below_setRow ?_ (by first | omega | (simp; done) | (simp; omega)) _)), ?_, (by (repeat (first | (with_reducible assumption) | (with_reducible exact alloc_at _ _) | ((with_reducible apply alloc_at'); (simp; done)) | (with_reducible apply alloc_at_lt) | (with_reducible apply heap_drew_at) | (with_reducible apply heap_drewN_at) | (with_reducible apply heap_setCell_same) | ((with_reducible apply heap_set_ne); (first | omega | (dsimp only; omega) | (simp; done) | (simp; omega))) | (with_reducible apply setRow_at) | ((with_reducible apply setRow_ne); (first | omega | (dsimp only; omega) | (simp; done) | (simp; omega)))))), ?_⟩
          · rw [show a * 2 ^ (k + 1) = 2 * (a * 2 ^ k) by rw [Nat.pow_succ, Nat.mul_comm (2 ^ k) 2, Nat.mul_left_comm]]
            exact setRow_at X3 _
          · rw [mul_step, HT.out]
            first | exact setRow_ne (by omega) O3 _ | (simp only [Nat.add_zero, if_true, if_false, Bool.false_eq_true]; exact setRow_ne (by omega) O3 _)
        case measure => first | (simp [intOf]; done) | (simp [intOf]; omega)
    · obtain rfl : k = 64 := by omega
      rw [H64.out] at hO
      go_wp2_with (first | (refine wpList_load_row rfl 111 (.tmp 5) rfl (w.heap.size + 1 + 1) (by simp [Act.eval, Act.put]) _ _ _ _ hO Try.underlying111 rfl (infoBig' _) ?_) | (refine wpList_store_row rfl 111 (.tmp 4) (.tmp 22) rfl (w.heap.size + 1) (bigA (a * n)) (by simp [Act.eval, Act.put]) (by simp [Act.eval, Act.put]) _ _ hR (infoBig' _) (by rw [bigA_size, bigA_size]) (bigA_one _) ?_))
      refine ret_row1 rfl (w.heap.size + 1) (bigA (a * n)) 111 _ rfl Try.underlying111 rfl (infoBig' _) rfl ⟨_, setRow_at hR _, rfl⟩ ⟨rfl, (by repeat (first | with_reducible assumption | with_reducible exact Below.refl _ _ | with_reducible refine Below.drew ?_ | with_reducible refine below_drewN ?_ _ | with_reducible refine below_alloc ?_ _ | with_reducible refine Below.alloc ?_ (by first | omega | (simp; done) | (simp; omega)) _ | with_reducible refine Below.setCell ?_ (by first | omega | (simp; done) | (simp; omega)) _ | with_reducible refine below_setRow ?_ (by first | omega | (simp; done) | (simp; omega)) _))⟩
end Go.Proofs.Yteccpjijlkjneaa
