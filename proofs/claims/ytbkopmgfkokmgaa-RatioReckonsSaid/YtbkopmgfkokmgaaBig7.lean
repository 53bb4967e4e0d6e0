/- Contracts of the reference's numbers of 256 bits: up, plus, Of, Compare. Asked: that Of's number is a word. -/
import Derived.Test.YtbkopmgfkokmgaaProg
import Derived.Test.YtbkopmgfkokmgaaCls
import Derived.Test.YtbkopmgfkokmgaaBig6
import Derived.Deep.LoopGhost
import Derived.Test.YtbkopmgfkokmgaaRat
import Derived.BigRegion
import Derived.Deep.RegionHeld3
namespace Go.Proofs.Ytbkopmgfkokmgaa
open Go.RowKit
attribute [local go_sem ↓] zeroBig
theorem half_big {x : Nat} (h : 2 * x ≤ 2 ^ 256) : Big x := by
  have : 0 < 2 ^ 256 := Nat.two_pow_pos 256
  unfold Big
  omega
set_option maxRecDepth 100000 in
set_option maxHeartbeats 12000000 in
theorem gcd_big (a b : Nat) (w : World) (ha : Hid (2 * a ≤ 2 ^ 256)) (hb : Hid (2 * b ≤ 2 ^ 256)) :
    Calls Try.prog 39 #[.agg (bigA a), .agg (bigA b)] w fun e w' => e = .returned (.agg (bigA (Nat.gcd a b))) ∧ Below w.heap.size w w' := by
  have hAB : Hid (2 * a ≤ 2 ^ 256 ∧ 2 * b ≤ 2 ^ 256) := hid ⟨ha.out, hb.out⟩
  clear ha hb
  go_enter Try.func39, Try.ntmps39
  go_wp2_with fail
  have hB0 : Below w.heap.size w (((w.alloc (.cells (bigA a) 51)).alloc (.cells (bigA b) 51)).alloc (.cells (bigA 0) 51)) := (by repeat (first | with_reducible assumption | with_reducible exact Below.refl _ _ | with_reducible refine Below.drew ?_ | with_reducible refine below_drewN ?_ _ | with_reducible refine below_alloc ?_ _ | with_reducible refine Below.alloc ?_ (by first | omega | (simp; done) | (simp; omega)) _ | with_reducible refine Below.setCell ?_ (by first | omega | (simp; done) | (simp; omega)) _ | with_reducible refine below_setRow ?_ (by first | omega | (simp; done) | (simp; omega)) _))
  have r0 : (((w.alloc (.cells (bigA a) 51)).alloc (.cells (bigA b) 51)).alloc (.cells (bigA 0) 51)).heap[w.heap.size]? = some (.cells (bigA (a)) 51 (0, 0)) := (by (repeat (first | (with_reducible assumption) | (with_reducible exact alloc_at _ _) | ((with_reducible apply alloc_at'); (simp; done)) | (with_reducible apply alloc_at_lt) | (with_reducible apply heap_drew_at) | (with_reducible apply heap_drewN_at) | (with_reducible apply heap_setCell_same) | ((with_reducible apply heap_set_ne); (first | omega | (dsimp only; omega) | (simp; done) | (simp; omega))) | (with_reducible apply setRow_at) | ((with_reducible apply setRow_ne); (first | omega | (dsimp only; omega) | (simp; done) | (simp; omega))))))
  have r1 : (((w.alloc (.cells (bigA a) 51)).alloc (.cells (bigA b) 51)).alloc (.cells (bigA 0) 51)).heap[w.heap.size + 1]? = some (.cells (bigA (b)) 51 (0, 0)) := (by (repeat (first | (with_reducible assumption) | (with_reducible exact alloc_at _ _) | ((with_reducible apply alloc_at'); (simp; done)) | (with_reducible apply alloc_at_lt) | (with_reducible apply heap_drew_at) | (with_reducible apply heap_drewN_at) | (with_reducible apply heap_setCell_same) | ((with_reducible apply heap_set_ne); (first | omega | (dsimp only; omega) | (simp; done) | (simp; omega))) | (with_reducible apply setRow_at) | ((with_reducible apply setRow_ne); (first | omega | (dsimp only; omega) | (simp; done) | (simp; omega))))))
  have r2 : (((w.alloc (.cells (bigA a) 51)).alloc (.cells (bigA b) 51)).alloc (.cells (bigA 0) 51)).heap[w.heap.size + 1 + 1]? = some (.cells (bigA (0)) 51 (0, 0)) := (by (repeat (first | (with_reducible assumption) | (with_reducible exact alloc_at _ _) | ((with_reducible apply alloc_at'); (simp; done)) | (with_reducible apply alloc_at_lt) | (with_reducible apply heap_drew_at) | (with_reducible apply heap_drewN_at) | (with_reducible apply heap_setCell_same) | ((with_reducible apply heap_set_ne); (first | omega | (dsimp only; omega) | (simp; done) | (simp; omega))) | (with_reducible apply setRow_at) | ((with_reducible apply setRow_ne); (first | omega | (dsimp only; omega) | (simp; done) | (simp; omega))))))
  go_loopg [5] b (fun y _ wr => ∃ x : Nat, Hid (Nat.gcd x y = Nat.gcd a b) ∧ Hid (2 * x ≤ 2 ^ 256 ∧ 2 * y ≤ 2 ^ 256) ∧ Below w.heap.size w wr ∧ wr.heap[w.heap.size]? = some (.cells (bigA (x)) 51 (0, 0)) ∧ wr.heap[w.heap.size + 1]? = some (.cells (bigA (y)) 51 (0, 0)) ∧ wr.heap[w.heap.size + 1 + 1]? = some (.cells (bigA (0)) 51 (0, 0)))
  case atStart => exact ⟨a, hid rfl, hAB, hB0, r0, r1, r2⟩
  case round =>
    clear hB0 r0 r1 r2 hAB
    obtain ⟨y, rfl⟩ : ∃ y, y = gk := ⟨_, rfl⟩
    obtain ⟨x, hgcd, hxy, hB, X0, Y0, R0⟩ := hrel
    have hl2 := lt_of_at R0
    have X0 := hid X0
    have Y0 := hid Y0
    have R0 := hid R0
    have hz := fun W => zero_any y W (hid (half_big hxy.out.2))
    by_cases hy : y = 0
    · subst hy
      simp only [decide_true] at hz
      have HZ := hid hz
      clear hz
      go_wp2_with (first | (refine wpList_load_row rfl 51 (.tmp 3) rfl (w.heap.size + 1) (by simp [Act.eval, Act.put]) _ _ _ _ Y0.out Try.underlying51 rfl (infoBig' _) ?_))
      refine (HZ.out _).mono ?_
      rintro e w1 ⟨rfl, hb1⟩
      have hs1 := hb1.size
      have X1 := hid (show w1.heap[w.heap.size]? = some (.cells (bigA (x)) 51 (0, 0)) from below_at hb1 (by first | omega | (simp; done) | (simp; omega)) X0.out)
      have R1 := hid (show w1.heap[w.heap.size + 1 + 1]? = some (.cells (bigA (0)) 51 (0, 0)) from below_at hb1 (by first | omega | (simp; done) | (simp; omega)) R0.out)
      have Bl1 : Below w.heap.size w w1 := Below.trans hB (hb1.mono (by first | omega | (simp; done) | (simp; omega)))
      clear hb1
      have hfin : x = Nat.gcd a b := by have := hgcd.out; rwa [Nat.gcd_zero_right] at this
      have HF := hid hfin
      clear hfin
      go_wp2_with (first | (refine wpList_load_row rfl 51 (.tmp 2) rfl (w.heap.size) (by simp [Act.eval, Act.put]) _ _ _ _ X1.out Try.underlying51 rfl (infoBig' _) ?_) | (refine wpList_store_row rfl 51 (.tmp 4) (.tmp 18) rfl (w.heap.size + 1 + 1) (bigA (x)) (by simp [Act.eval, Act.put]) (by simp [Act.eval, Act.put]) _ _ R1.out (infoBig' _) (by rw [bigA_size, bigA_size]) (bigA_one _) ?_))
      rw [← HF.out]
      refine ret_row1 rfl (w.heap.size + 1 + 1) (bigA x) 51 _ rfl Try.underlying51 rfl (infoBig' _) rfl ⟨_, setRow_at R1.out _, rfl⟩ ⟨rfl, (by repeat (first | with_reducible assumption | with_reducible exact Below.refl _ _ | with_reducible refine Below.drew ?_ | with_reducible refine below_drewN ?_ _ | with_reducible refine below_alloc ?_ _ | with_reducible refine Below.alloc ?_ (by first | omega | (simp; done) | (simp; omega)) _ | with_reducible refine Below.setCell ?_ (by first | omega | (simp; done) | (simp; omega)) _ | with_reducible refine below_setRow ?_ (by first | omega | (simp; done) | (simp; omega)) _))⟩
    · simp only [hy, decide_false] at hz
      have HZ := hid hz
      have hd := fun W => divided_big x y W (hid (by omega)) (hid hxy.out.2) (hid (half_big hxy.out.1))
      have HD := hid hd
      have HY := hid hy
      clear hz hd hy
      go_wp2_with (first | (refine wpList_load_row rfl 51 (.tmp 3) rfl (w.heap.size + 1) (by simp [Act.eval, Act.put]) _ _ _ _ Y0.out Try.underlying51 rfl (infoBig' _) ?_))
      refine (HZ.out _).mono ?_
      rintro e w1 ⟨rfl, hb1⟩
      have hs1 := hb1.size
      have X1 := hid (show w1.heap[w.heap.size]? = some (.cells (bigA (x)) 51 (0, 0)) from below_at hb1 (by first | omega | (simp; done) | (simp; omega)) X0.out)
      have Y1 := hid (show w1.heap[w.heap.size + 1]? = some (.cells (bigA (y)) 51 (0, 0)) from below_at hb1 (by first | omega | (simp; done) | (simp; omega)) Y0.out)
      have R1 := hid (show w1.heap[w.heap.size + 1 + 1]? = some (.cells (bigA (0)) 51 (0, 0)) from below_at hb1 (by first | omega | (simp; done) | (simp; omega)) R0.out)
      have Bl1 : Below w.heap.size w w1 := Below.trans hB (hb1.mono (by first | omega | (simp; done) | (simp; omega)))
      clear hb1 X0 Y0 R0 hB
      go_wp2_with (first | (refine wpList_load_row rfl 51 (.tmp 2) rfl (w.heap.size) (by simp [Act.eval, Act.put]) _ _ _ _ X1.out Try.underlying51 rfl (infoBig' _) ?_) | (refine wpList_load_row rfl 51 (.tmp 3) rfl (w.heap.size + 1) (by simp [Act.eval, Act.put]) _ _ _ _ Y1.out Try.underlying51 rfl (infoBig' _) ?_))
      refine (HD.out _).mono ?_
      rintro e w2 ⟨rfl, hb2⟩
      have hs2 := hb2.size
      have X2 := hid (show w2.heap[w.heap.size]? = some (.cells (bigA (x)) 51 (0, 0)) from below_at hb2 (by first | omega | (simp; done) | (simp; omega)) X1.out)
      have Y2 := hid (show w2.heap[w.heap.size + 1]? = some (.cells (bigA (y)) 51 (0, 0)) from below_at hb2 (by first | omega | (simp; done) | (simp; omega)) Y1.out)
      have R2 := hid (show w2.heap[w.heap.size + 1 + 1]? = some (.cells (bigA (0)) 51 (0, 0)) from below_at hb2 (by first | omega | (simp; done) | (simp; omega)) R1.out)
      have Bl2 : Below w.heap.size w w2 := Below.trans Bl1 (hb2.mono (by first | omega | (simp; done) | (simp; omega)))
      clear hb2 X1 Y1 R1 Bl1
      have F1 := hid (show ((w2.alloc (.cells (bigA 0) 51)).alloc (.cells (bigA 0) 51)).heap[w2.heap.size]? = some (.cells (bigA (0)) 51 (0, 0)) from alloc_at_lt (alloc_at _ _) _)
      have G1 := hid (show ((w2.alloc (.cells (bigA 0) 51)).alloc (.cells (bigA 0) 51)).heap[w2.heap.size + 1]? = some (.cells (bigA (0)) 51 (0, 0)) from alloc_at' _ (by simp))
      have F2 := hid (show (((w2.alloc (.cells (bigA 0) 51)).alloc (.cells (bigA 0) 51)).setRow w2.heap.size (bigA (x / y))).heap[w2.heap.size + 1]? = some (.cells (bigA (0)) 51 (0, 0)) from setRow_ne (by omega) G1.out _)
      have F3 := hid (show ((((w2.alloc (.cells (bigA 0) 51)).alloc (.cells (bigA 0) 51)).setRow w2.heap.size (bigA (x / y))).setRow (w2.heap.size + 1) (bigA (x % y))).heap[w.heap.size + 1]? = some (.cells (bigA (y)) 51 (0, 0)) from setRow_ne (by omega) (setRow_ne (by omega) (alloc_at_lt (alloc_at_lt Y2.out _) _) _) _)
      have F4 := hid (show ((((w2.alloc (.cells (bigA 0) 51)).alloc (.cells (bigA 0) 51)).setRow w2.heap.size (bigA (x / y))).setRow (w2.heap.size + 1) (bigA (x % y))).heap[w.heap.size]? = some (.cells (bigA (x)) 51 (0, 0)) from setRow_ne (by omega) (setRow_ne (by omega) (alloc_at_lt (alloc_at_lt X2.out _) _) _) _)
      have F5 := hid (show (((((w2.alloc (.cells (bigA 0) 51)).alloc (.cells (bigA 0) 51)).setRow w2.heap.size (bigA (x / y))).setRow (w2.heap.size + 1) (bigA (x % y))).setRow (w.heap.size) (bigA y)).heap[w2.heap.size + 1]? = some (.cells (bigA (x % y)) 51 (0, 0)) from setRow_ne (by omega) (setRow_at F2.out _) _)
      have F6 := hid (show (((((w2.alloc (.cells (bigA 0) 51)).alloc (.cells (bigA 0) 51)).setRow w2.heap.size (bigA (x / y))).setRow (w2.heap.size + 1) (bigA (x % y))).setRow (w.heap.size) (bigA y)).heap[w.heap.size + 1]? = some (.cells (bigA (y)) 51 (0, 0)) from setRow_ne (by omega) F3.out _)
      have F7 := hid (show (((((w2.alloc (.cells (bigA 0) 51)).alloc (.cells (bigA 0) 51)).setRow w2.heap.size (bigA (x / y))).setRow (w2.heap.size + 1) (bigA (x % y))).setRow (w.heap.size) (bigA y)).heap[w.heap.size + 1 + 1]? = some (.cells (bigA (0)) 51 (0, 0)) from setRow_ne (by omega) (setRow_ne (by omega) (setRow_ne (by omega) (alloc_at_lt (alloc_at_lt R2.out _) _) _) _) _)
      go_wp2_with (first | (refine wpList_store_row rfl 51 (.tmp 5) (.tmp 14) rfl (w2.heap.size) (bigA (x / y)) (by simp [Act.eval, Act.put]) (by simp [Act.eval, Act.put]) _ _ F1.out (infoBig' _) (by rw [bigA_size, bigA_size]) (bigA_one _) ?_) | (refine wpList_store_row rfl 51 (.tmp 6) (.tmp 15) rfl (w2.heap.size + 1) (bigA (x % y)) (by simp [Act.eval, Act.put]) (by simp [Act.eval, Act.put]) _ _ F2.out (infoBig' _) (by rw [bigA_size, bigA_size]) (bigA_one _) ?_) | (refine wpList_load_row rfl 51 (.tmp 3) rfl (w.heap.size + 1) (by simp [Act.eval, Act.put]) _ _ _ _ F3.out Try.underlying51 rfl (infoBig' _) ?_) | (refine wpList_store_row rfl 51 (.tmp 2) (.tmp 16) rfl (w.heap.size) (bigA (y)) (by simp [Act.eval, Act.put]) (by simp [Act.eval, Act.put]) _ _ F4.out (infoBig' _) (by rw [bigA_size, bigA_size]) (bigA_one _) ?_) | (refine wpList_load_row rfl 51 (.tmp 6) rfl (w2.heap.size + 1) (by simp [Act.eval, Act.put]) _ _ _ _ F5.out Try.underlying51 rfl (infoBig' _) ?_) | (refine wpList_store_row rfl 51 (.tmp 3) (.tmp 17) rfl (w.heap.size + 1) (bigA (x % y)) (by simp [Act.eval, Act.put]) (by simp [Act.eval, Act.put]) _ _ F6.out (infoBig' _) (by rw [bigA_size, bigA_size]) (bigA_one _) ?_))
      go_roundg (x % y)
      case measure => exact Nat.mod_lt _ (by have := HY.out; omega)
      case rel =>
        refine ⟨y, hid ?_, hid ⟨hxy.out.2, ?_⟩, ?_, setRow_ne (by omega) (setRow_at F4.out _) _, setRow_at F6.out _, setRow_ne (by omega) F7.out _⟩
        · rw [← hgcd.out, Nat.gcd_comm x y, Nat.gcd_rec y x, Nat.gcd_comm]
        · have := Nat.mod_lt x (show y > 0 by have := HY.out; omega); have := hxy.out.2; omega
        · exact below_setRow (below_setRow (below_setRow (below_setRow ((Bl2.alloc Bl2.size _).alloc (by simp; omega) _) (by omega) _) (by omega) _) (by omega) _) (by omega) _
end Go.Proofs.Ytbkopmgfkokmgaa
