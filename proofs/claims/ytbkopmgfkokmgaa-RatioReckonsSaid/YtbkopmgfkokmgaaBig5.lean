/- Contracts of the reference's numbers of 256 bits: up, plus, Of, Compare. Asked: that Of's number is a word. -/
import Derived.Test.YtbkopmgfkokmgaaProg
import Derived.Test.YtbkopmgfkokmgaaCls
import Derived.Test.YtbkopmgfkokmgaaBig4
import Derived.Deep.LoopGhost
import Derived.Test.YtbkopmgfkokmgaaRat
import Derived.BigRegion
import Derived.Deep.RegionHeld3
namespace Go.Proofs.Ytbkopmgfkokmgaa
open Go.RowKit
attribute [local go_sem ↓] zeroBig
theorem bigA_set0 (r : Nat) (c : Bool) : (bigA (2 * r)).setIfInBounds 0 (.bool c) = bigA (2 * r + c.toNat) := by
  apply Array.ext
  · simp [bigA_size]
  · intro i h1 h2
    rw [Array.size_setIfInBounds, bigA_size] at h1
    apply Option.some.inj
    rw [← Array.getElem?_eq_getElem, ← Array.getElem?_eq_getElem, Array.getElem?_setIfInBounds, bigA_size, bigA_get _ _ h1]
    by_cases hi : 0 = i
    · subst hi
      rw [if_pos rfl, if_pos (by omega), bigA_get _ _ (by omega)]
      cases c <;> simp
    · rw [if_neg hi, bigA_get _ _ h1]
      obtain ⟨k, rfl⟩ : ∃ k, i = k + 1 := ⟨i - 1, by omega⟩
      rw [Nat.testBit_succ, Nat.testBit_succ]
      have : (2 * r + c.toNat) / 2 = 2 * r / 2 := by cases c <;> simp <;> omega
      rw [this]
theorem bigA_setj (m j : Nat) (hj : j < 256) : (bigA (m * 2 ^ (j + 1))).setIfInBounds j (.bool true) = bigA (m * 2 ^ (j + 1) + 2 ^ j) := by
  have hor : m * 2 ^ (j + 1) + 2 ^ j = m * 2 ^ (j + 1) ||| 2 ^ j := by
    rw [Nat.mul_comm, Nat.two_pow_add_eq_or_of_lt (Nat.pow_lt_pow_right (by omega) (by omega))]
  apply Array.ext
  · simp [bigA_size]
  · intro i h1 h2
    rw [Array.size_setIfInBounds, bigA_size] at h1
    apply Option.some.inj
    rw [← Array.getElem?_eq_getElem, ← Array.getElem?_eq_getElem, Array.getElem?_setIfInBounds, bigA_size, hor, bigA_get (m * 2 ^ (j + 1) ||| 2 ^ j) _ h1, Nat.testBit_or, Nat.testBit_two_pow]
    by_cases hi : j = i
    · subst hi
      rw [if_pos rfl, if_pos hj]
      simp
    · rw [if_neg hi, bigA_get _ _ h1]
      simp [hi]
theorem shift_bit (a j : Nat) : a / 2 ^ j = 2 * (a / 2 ^ (j + 1)) + (a.testBit j).toNat := by
  rw [Nat.toNat_testBit, Nat.pow_succ, ← Nat.div_div_eq_div_mul]; omega
theorem div_step {a b j r : Nat} (hr : a / 2 ^ (j + 1) % b = r) (hb : 0 < b) :
    (b ≤ 2 * r + (a.testBit j).toNat → a / 2 ^ j / b = 2 * (a / 2 ^ (j + 1) / b) + 1 ∧ a / 2 ^ j % b = 2 * r + (a.testBit j).toNat - b) ∧
    (2 * r + (a.testBit j).toNat < b → a / 2 ^ j / b = 2 * (a / 2 ^ (j + 1) / b) ∧ a / 2 ^ j % b = 2 * r + (a.testBit j).toNat) ∧ r < b := by
  have hlt : r < b := by rw [← hr]; exact Nat.mod_lt _ hb
  have e := shift_bit a j
  have h1 := Nat.div_add_mod (a / 2 ^ (j + 1)) b
  rw [hr] at h1
  have hc : (a.testBit j).toNat ≤ 1 := by cases a.testBit j <;> simp
  generalize (a.testBit j).toNat = c at *
  generalize a / 2 ^ (j + 1) = u at *
  generalize u / b = q at *
  rw [e, ← h1]
  have f : 2 * (b * q + r) + c = b * (2 * q) + (2 * r + c) := by rw [Nat.mul_add, Nat.mul_left_comm]; omega
  rw [f]
  refine ⟨fun h => ?_, fun h => ?_, hlt⟩
  · have f2 : b * (2 * q) + (2 * r + c) = b * (2 * q + 1) + (2 * r + c - b) := by rw [Nat.mul_add b, Nat.mul_one]; omega
    rw [f2, Nat.mul_add_div hb, Nat.mul_add_mod]
    rw [Nat.div_eq_of_lt (by omega), Nat.mod_eq_of_lt (by omega)]
    omega
  · rw [Nat.mul_add_div hb, Nat.mul_add_mod, Nat.div_eq_of_lt h, Nat.mod_eq_of_lt h]
    omega
set_option maxRecDepth 100000 in
set_option maxHeartbeats 400000 in
theorem minus_any (a b : Nat) (HLE : Hid (b ≤ a)) (w : World) :
    Calls Try.prog 31 #[.agg (bigA a), .agg (bigA b)] w fun e w' => e = .returned (.agg (bigA (a - b))) ∧ Below w.heap.size w w' := by
  go_enter Try.func31, Try.ntmps31
  go_wp2_with fail
  have hB0 : Below w.heap.size w ((((w.alloc (.cells (bigA a) 51)).alloc (.cells (bigA b) 51)).alloc (.cells (bigA 0) 51)).alloc (.cells (bigA 0) 51)) := (by repeat (first | with_reducible assumption | with_reducible exact Below.refl _ _ | with_reducible refine Below.drew ?_ | with_reducible refine below_drewN ?_ _ | with_reducible refine below_alloc ?_ _ | with_reducible refine Below.alloc ?_ (by first | omega | (simp; done) | (simp; omega)) _ | with_reducible refine Below.setCell ?_ (by first | omega | (simp; done) | (simp; omega)) _ | with_reducible refine below_setRow ?_ (by first | omega | (simp; done) | (simp; omega)) _))
  have h00 : ((((w.alloc (.cells (bigA a) 51)).alloc (.cells (bigA b) 51)).alloc (.cells (bigA 0) 51)).alloc (.cells (bigA 0) 51)).heap[w.heap.size]? = some (.cells (bigA (a)) 51 (0, 0)) := (by (repeat (first | (with_reducible assumption) | (with_reducible exact alloc_at _ _) | ((with_reducible apply alloc_at'); (simp; done)) | (with_reducible apply alloc_at_lt) | (with_reducible apply heap_drew_at) | (with_reducible apply heap_drewN_at) | (with_reducible apply heap_setCell_same) | ((with_reducible apply heap_set_ne); (first | omega | (dsimp only; omega) | (simp; done) | (simp; omega))) | (with_reducible apply setRow_at) | ((with_reducible apply setRow_ne); (first | omega | (dsimp only; omega) | (simp; done) | (simp; omega))))))
  have h01 : ((((w.alloc (.cells (bigA a) 51)).alloc (.cells (bigA b) 51)).alloc (.cells (bigA 0) 51)).alloc (.cells (bigA 0) 51)).heap[w.heap.size + 1]? = some (.cells (bigA (b)) 51 (0, 0)) := (by (repeat (first | (with_reducible assumption) | (with_reducible exact alloc_at _ _) | ((with_reducible apply alloc_at'); (simp; done)) | (with_reducible apply alloc_at_lt) | (with_reducible apply heap_drew_at) | (with_reducible apply heap_drewN_at) | (with_reducible apply heap_setCell_same) | ((with_reducible apply heap_set_ne); (first | omega | (dsimp only; omega) | (simp; done) | (simp; omega))) | (with_reducible apply setRow_at) | ((with_reducible apply setRow_ne); (first | omega | (dsimp only; omega) | (simp; done) | (simp; omega))))))
  have h02 : ((((w.alloc (.cells (bigA a) 51)).alloc (.cells (bigA b) 51)).alloc (.cells (bigA 0) 51)).alloc (.cells (bigA 0) 51)).heap[w.heap.size + 1 + 1]? = some (.cells (bigA (0)) 51 (0, 0)) := (by (repeat (first | (with_reducible assumption) | (with_reducible exact alloc_at _ _) | ((with_reducible apply alloc_at'); (simp; done)) | (with_reducible apply alloc_at_lt) | (with_reducible apply heap_drew_at) | (with_reducible apply heap_drewN_at) | (with_reducible apply heap_setCell_same) | ((with_reducible apply heap_set_ne); (first | omega | (dsimp only; omega) | (simp; done) | (simp; omega))) | (with_reducible apply setRow_at) | ((with_reducible apply setRow_ne); (first | omega | (dsimp only; omega) | (simp; done) | (simp; omega))))))
  have h03 : ((((w.alloc (.cells (bigA a) 51)).alloc (.cells (bigA b) 51)).alloc (.cells (bigA 0) 51)).alloc (.cells (bigA 0) 51)).heap[w.heap.size + 1 + 1 + 1]? = some (.cells (bigA ((a - b) % 2 ^ 0)) 51 (0, 0)) := by
    rw [Nat.pow_zero, Nat.mod_one]; exact (by (repeat (first | (with_reducible assumption) | (with_reducible exact alloc_at _ _) | ((with_reducible apply alloc_at'); (simp; done)) | (with_reducible apply alloc_at_lt) | (with_reducible apply heap_drew_at) | (with_reducible apply heap_drewN_at) | (with_reducible apply heap_setCell_same) | ((with_reducible apply heap_set_ne); (first | omega | (dsimp only; omega) | (simp; done) | (simp; omega))) | (with_reducible apply setRow_at) | ((with_reducible apply setRow_ne); (first | omega | (dsimp only; omega) | (simp; done) | (simp; omega))))))
  have hc0 := borB_zero a b
  have HC0 := hid hc0
  clear hc0
  go_loopw [6, 7] (fun c i wr => ∃ k : Nat, k ≤ 256 ∧ i = .int .i64 k ∧ c = .bool (borB a b k) ∧ Below w.heap.size w wr ∧ wr.heap[w.heap.size]? = some (.cells (bigA (a)) 51 (0, 0)) ∧ wr.heap[w.heap.size + 1]? = some (.cells (bigA (b)) 51 (0, 0)) ∧ wr.heap[w.heap.size + 1 + 1]? = some (.cells (bigA (0)) 51 (0, 0)) ∧
    wr.heap[w.heap.size + 1 + 1 + 1]? = some (.cells (bigA ((a - b) % 2 ^ k)) 51 (0, 0))) (fun _ i _ => 256 - (intOf i).toNat)
  case atStart => exact ⟨0, by omega, rfl, by rw [HC0.out], hB0, h00, h01, h02, h03⟩
  case round =>
    clear hB0 h00 h01 h02 h03 HC0
    obtain ⟨k, hk, rfl, rfl, hB, hX, hY, hR, hO⟩ := hrel
    by_cases hlt : k < 256
    · obtain ⟨x, hx, cx⟩ : ∃ x, Hid (x = a.testBit k) ∧ wr.cell? ⟨w.heap.size, k, none⟩ = some (.bool x) := ⟨_, rfl, (blk_cell hX _).trans (bigA_get _ _ hlt)⟩
      obtain ⟨y, hy, cy⟩ : ∃ y, Hid (y = b.testBit k) ∧ wr.cell? ⟨w.heap.size + 1, k, none⟩ = some (.bool y) := ⟨_, rfl, (blk_cell hY _).trans (bigA_get _ _ hlt)⟩
      obtain ⟨c, co⟩ : ∃ c, wr.cell? ⟨w.heap.size + 1 + 1 + 1, k, none⟩ = some (.bool c) := ⟨_, (blk_cell hO _).trans (bigA_get _ _ hlt)⟩
      obtain ⟨z, hz⟩ : ∃ z, borB a b k = z := ⟨_, rfl⟩
      have hs := borB_succ a b k
      have hbit := sub_bit HLE.out k
      rw [hz, ← hx.out, ← hy.out] at hs hbit
      rw [hz]
      have HS := hid hs
      have HB := hid hbit
      have fo := blk_free hO
      have HX := hid hX
      have HY := hid hY
      have HR := hid hR
      have HO := hid hO
      clear hX hY hR hO hz hs hbit
      cases x <;> cases y <;> cases z
      all_goals
        go_wp2
        go_quiet (fail)
        go_wp2
        go_roundw
        case rel =>
          have hX := HX.out
          have hY := HY.out
          have hR := HR.out
          refine ⟨k + 1, by omega, by go_num, by rw [HS.out]; rfl, (by repeat (first | with_reducible assumption | with_reducible exact Below.refl _ _ | with_reducible refine Below.drew ?_ | with_reducible refine below_drewN ?_ _ | with_reducible refine below_alloc ?_ _ | with_reducible refine Below.alloc ?_ (by first | omega | (simp; done) | (simp; omega)) _ | with_reducible refine Below.setCell ?_ (by first | omega | (simp; done) | (simp; omega)) _ | with_reducible refine below_setRow ?_ (by first | omega | (simp; done) | (simp; omega)) _)), (by (repeat (first | (with_reducible assumption) | (with_reducible exact alloc_at _ _) | ((with_reducible apply alloc_at'); (simp; done)) | (with_reducible apply alloc_at_lt) | (with_reducible apply heap_drew_at) | (with_reducible apply heap_drewN_at) | (with_reducible apply heap_setCell_same) | ((with_reducible apply heap_set_ne); (first | omega | (dsimp only; omega) | (simp; done) | (simp; omega))) | (with_reducible apply setRow_at) | ((with_reducible apply setRow_ne); (first | omega | (dsimp only; omega) | (simp; done) | (simp; omega)))))), (by (repeat (first | (with_reducible assumption) | (with_reducible exact alloc_at _ _) | ((with_reducible apply alloc_at'); (simp; done)) | (with_reducible apply alloc_at_lt) | (with_reducible apply heap_drew_at) | (with_reducible apply heap_drewN_at) | (with_reducible apply heap_setCell_same) | ((with_reducible apply heap_set_ne); (first | omega | (dsimp only; omega) | (simp; done) | (simp; omega))) | (with_reducible apply setRow_at) | ((with_reducible apply setRow_ne); (first | omega | (dsimp only; omega) | (simp; done) | (simp; omega)))))), (by (repeat (first | (with_reducible assumption) | (with_reducible exact alloc_at _ _) | ((with_reducible apply alloc_at'); (simp; done)) | (with_reducible apply alloc_at_lt) | (with_reducible apply heap_drew_at) | (with_reducible apply heap_drewN_at) | (with_reducible apply heap_setCell_same) | ((with_reducible apply heap_set_ne); (first | omega | (dsimp only; omega) | (simp; done) | (simp; omega))) | (with_reducible apply setRow_at) | ((with_reducible apply setRow_ne); (first | omega | (dsimp only; omega) | (simp; done) | (simp; omega)))))), ?_⟩
          have e := heap_setCell_same (wr.drewN nq) (w.heap.size + 1 + 1 + 1) k _ _ (.bool ((a - b).testBit k)) HO.out
          rw [bigA_step _ _ hlt, HB.out] at e
          exact e
        case measure => simp [intOf]; omega
    · obtain rfl : k = 256 := by omega
      rw [bigA_mod] at hO
      go_wp2_with (first | (refine wpList_load_row rfl 51 (.tmp 5) rfl (w.heap.size + 1 + 1 + 1) (by simp [Act.eval, Act.put]) _ _ _ _ hO Try.underlying51 rfl (infoBig' _) ?_) | (refine wpList_store_row rfl 51 (.tmp 4) (.tmp 40) rfl (w.heap.size + 1 + 1) (bigA (a - b)) (by simp [Act.eval, Act.put]) (by simp [Act.eval, Act.put]) _ _ hR (infoBig' _) (by rw [bigA_size, bigA_size]) (bigA_one _) ?_))
      refine ret_row1 rfl (w.heap.size + 1 + 1) (bigA (a - b)) 51 _ rfl Try.underlying51 rfl (infoBig' _) rfl ⟨_, setRow_at hR _, rfl⟩ ⟨rfl, (by repeat (first | with_reducible assumption | with_reducible exact Below.refl _ _ | with_reducible refine Below.drew ?_ | with_reducible refine below_drewN ?_ _ | with_reducible refine below_alloc ?_ _ | with_reducible refine Below.alloc ?_ (by first | omega | (simp; done) | (simp; omega)) _ | with_reducible refine Below.setCell ?_ (by first | omega | (simp; done) | (simp; omega)) _ | with_reducible refine below_setRow ?_ (by first | omega | (simp; done) | (simp; omega)) _))⟩
set_option maxRecDepth 100000 in
set_option maxHeartbeats 400000 in
theorem zero_any (a : Nat) (w : World) (ha : Hid (Big a)) :
    Calls Try.prog 45 #[.agg (bigA a)] w fun e w' => e = .returned (.bool (decide (a = 0))) ∧ Below w.heap.size w w' := by
  have hb : (Try.prog.built 51 []).getD #[] = bigA 0 := by kernel_rfl
  have HB := hid hb
  clear hb
  have z0 : Big 0 := Nat.two_pow_pos 256
  have hc := fun W => compare_any a 0 W ha.out z0
  have hdec : (cmpZ (a : Int) ((0 : Nat) : Int) == 0) = decide (a = 0) := by
    unfold cmpZ
    by_cases h : a = 0
    · subst h; simp
    · have : ¬ ((a : Int) < ((0 : Nat) : Int)) := by omega
      rw [if_neg this, if_pos (by omega)]
      simp [h]
  have HD := hid hdec
  have HC := hid hc
  clear hdec hc z0 ha
  go_enter Try.func45, Try.ntmps45
  have hX : (w.alloc (.cells (bigA a) 51)).heap[w.heap.size]? = some (.cells (bigA (a)) 51 (0, 0)) := (by (repeat (first | (with_reducible assumption) | (with_reducible exact alloc_at _ _) | ((with_reducible apply alloc_at'); (simp; done)) | (with_reducible apply alloc_at_lt) | (with_reducible apply heap_drew_at) | (with_reducible apply heap_drewN_at) | (with_reducible apply heap_setCell_same) | ((with_reducible apply heap_set_ne); (first | omega | (dsimp only; omega) | (simp; done) | (simp; omega))) | (with_reducible apply setRow_at) | ((with_reducible apply setRow_ne); (first | omega | (dsimp only; omega) | (simp; done) | (simp; omega))))))
  have HX := hid hX
  clear hX
  go_wp2_with (first | (refine wpList_load_row rfl 51 (.tmp 1) rfl (w.heap.size) (by simp [Act.eval, Act.put]) _ _ _ _ HX.out Try.underlying51 rfl (infoBig' _) ?_) | (refine wpList_build rfl 51 #[] rfl (by kernel_rfl) ?_; rw [show (Try.prog.built 51 (Array.map _ #[]).toList).getD #[] = bigA 0 from HB.out]))
  refine (HC.out _).mono ?_
  rintro e w1 ⟨rfl, hb1⟩
  go_wp2
  go_ret
  exact ⟨by first | rw [HD.out] | (rw [← HD.out]; rfl), Below.trans (by repeat (first | with_reducible assumption | with_reducible exact Below.refl _ _ | with_reducible refine Below.drew ?_ | with_reducible refine below_drewN ?_ _ | with_reducible refine below_alloc ?_ _ | with_reducible refine Below.alloc ?_ (by first | omega | (simp; done) | (simp; omega)) _ | with_reducible refine Below.setCell ?_ (by first | omega | (simp; done) | (simp; omega)) _ | with_reducible refine below_setRow ?_ (by first | omega | (simp; done) | (simp; omega)) _)) (hb1.mono (by first | omega | (simp; done) | (simp; omega)))⟩
end Go.Proofs.Ytbkopmgfkokmgaa
