/- Contracts of the reference's numbers of 256 bits: up, plus, Of, Compare. Asked: that Of's number is a word. -/
import Derived.Test.YtbkopmgfkokmgaaProg
import Derived.Test.YtbkopmgfkokmgaaCls
import Derived.Test.YtbkopmgfkokmgaaBig7
import Derived.Test.YtbkopmgfkokmgaaBig8
import Derived.Test.YtbkopmgfkokmgaaRat2
import Derived.Test.YtbkopmgfkokmgaaRat
import Derived.BigRegion
import Derived.Deep.RegionHeld3
namespace Go.Proofs.Ytbkopmgfkokmgaa
open Go.RowKit
attribute [local go_sem ↓] zeroBig
set_option maxRecDepth 100000 in
set_option maxHeartbeats 12000000 in
theorem low_o1 (n d g x y p q : Nat) (z1 z2 : Int) (b2 : Bool) (w : World)
    (HG : Hid (∀ W, Calls Try.prog 39 #[.agg (bigA n), .agg (bigA d)] W fun e w' => e = .returned (.agg (bigA g)) ∧ Below W.heap.size W w'))
    (HD1 : Hid (∀ W, Calls Try.prog 40 #[.agg (bigA n), .agg (bigA g)] W fun e w' => e = .returned (.tuple #[.agg (bigA x), .agg (bigA p)]) ∧ Below W.heap.size W w'))
    (HD2 : Hid (∀ W, Calls Try.prog 40 #[.agg (bigA d), .agg (bigA g)] W fun e w' => e = .returned (.tuple #[.agg (bigA y), .agg (bigA q)]) ∧ Below W.heap.size W w'))
    (HW1 : Hid (∀ W, Calls Try.prog 41 #[.agg (bigA x)] W fun e w' => e = .returned (.tuple #[.int .u64 z1, .bool false]) ∧ Below W.heap.size W w'))
    (HW2 : Hid (∀ W, Calls Try.prog 41 #[.agg (bigA y)] W fun e w' => e = .returned (.tuple #[.int .u64 z2, .bool b2]) ∧ Below W.heap.size W w')) :
    Calls Try.prog 29 #[.agg (bigA n), .agg (bigA d)] w fun e w' => e = .returned (.tuple #[.agg #[.int .u64 0, .int .u64 0], .int .i64 7]) ∧ Below w.heap.size w w' := by
  go_enter Try.func29, Try.ntmps29
  have N0 := hid (show (((w.alloc (.cells (bigA n) 51)).alloc (.cells (bigA d) 51)).alloc (.cells #[.int .u64 0, .int .u64 0] 29)).heap[w.heap.size]? = some (.cells (bigA (n)) 51 (0, 0)) from alloc_at_lt (alloc_at_lt (alloc_at _ _) _) _)
  have D0 := hid (show (((w.alloc (.cells (bigA n) 51)).alloc (.cells (bigA d) 51)).alloc (.cells #[.int .u64 0, .int .u64 0] 29)).heap[w.heap.size + 1]? = some (.cells (bigA (d)) 51 (0, 0)) from alloc_at_lt (alloc_at' _ (by simp)) _)
  have R0 := hid (show (((w.alloc (.cells (bigA n) 51)).alloc (.cells (bigA d) 51)).alloc (.cells #[.int .u64 0, .int .u64 0] 29)).heap[w.heap.size + 1 + 1]? = some (.cells #[.int .u64 0, .int .u64 0] 29 (0, 0)) from alloc_at' _ (by simp))
  have Bl0 : Below w.heap.size w (((w.alloc (.cells (bigA n) 51)).alloc (.cells (bigA d) 51)).alloc (.cells #[.int .u64 0, .int .u64 0] 29)) := (by repeat (first | with_reducible assumption | with_reducible exact Below.refl _ _ | with_reducible refine Below.drew ?_ | with_reducible refine below_drewN ?_ _ | with_reducible refine below_alloc ?_ _ | with_reducible refine Below.alloc ?_ (by first | omega | (simp; done) | (simp; omega)) _ | with_reducible refine Below.setCell ?_ (by first | omega | (simp; done) | (simp; omega)) _ | with_reducible refine below_setRow ?_ (by first | omega | (simp; done) | (simp; omega)) _))
  go_wp2_with (first | (refine wpList_load_row rfl 51 (.tmp 2) rfl (w.heap.size) (by simp [Act.eval, Act.put]) _ _ _ _ N0.out Try.underlying51 rfl (infoBig' _) ?_) | (refine wpList_load_row rfl 51 (.tmp 3) rfl (w.heap.size + 1) (by simp [Act.eval, Act.put]) _ _ _ _ D0.out Try.underlying51 rfl (infoBig' _) ?_))
  refine (HG.out _).mono ?_
  rintro e w1 ⟨rfl, hb1⟩
  have hs1 := hb1.size
  simp only [World.size_alloc] at hs1
  have N1 := hid (show w1.heap[w.heap.size]? = some (.cells (bigA (n)) 51 (0, 0)) from below_at hb1 (by first | omega | (simp; done) | (simp; omega)) N0.out)
  have D1 := hid (show w1.heap[w.heap.size + 1]? = some (.cells (bigA (d)) 51 (0, 0)) from below_at hb1 (by first | omega | (simp; done) | (simp; omega)) D0.out)
  have R1 := hid (show w1.heap[w.heap.size + 1 + 1]? = some (.cells #[.int .u64 0, .int .u64 0] 29 (0, 0)) from below_at hb1 (by first | omega | (simp; done) | (simp; omega)) R0.out)
  have Bl1 : Below w.heap.size w w1 := Below.trans Bl0 (hb1.mono (by first | omega | (simp; done) | (simp; omega)))
  clear hb1 N0 D0 R0 Bl0
  have S1 := hid (show (w1.alloc (.cells (bigA 0) 51)).heap[w1.heap.size]? = some (.cells (bigA (0)) 51 (0, 0)) from alloc_at _ _)
  have N2 := hid (show ((w1.alloc (.cells (bigA 0) 51)).setRow (w1.heap.size) (bigA (g))).heap[w.heap.size]? = some (.cells (bigA (n)) 51 (0, 0)) from setRow_ne (by omega) (alloc_at_lt N1.out _) _)
  have D2 := hid (show ((w1.alloc (.cells (bigA 0) 51)).setRow (w1.heap.size) (bigA (g))).heap[w.heap.size + 1]? = some (.cells (bigA (d)) 51 (0, 0)) from setRow_ne (by omega) (alloc_at_lt D1.out _) _)
  have R2_ := hid (show ((w1.alloc (.cells (bigA 0) 51)).setRow (w1.heap.size) (bigA (g))).heap[w.heap.size + 1 + 1]? = some (.cells #[.int .u64 0, .int .u64 0] 29 (0, 0)) from setRow_ne (by omega) (alloc_at_lt R1.out _) _)
  have G2 := hid (show ((w1.alloc (.cells (bigA 0) 51)).setRow (w1.heap.size) (bigA (g))).heap[w1.heap.size]? = some (.cells (bigA (g)) 51 (0, 0)) from setRow_at S1.out _)
  have Bl2 : Below w.heap.size w ((w1.alloc (.cells (bigA 0) 51)).setRow (w1.heap.size) (bigA (g))) := below_setRow (Bl1.alloc (by omega) _) (by omega) _
  clear N1 D1 R1 Bl1
  go_wp2_with (first | (refine wpList_store_row rfl 51 (.tmp 6) (.tmp 17) rfl (w1.heap.size) (bigA (g)) (by simp [Act.eval, Act.put]) (by simp [Act.eval, Act.put]) _ _ S1.out (infoBig' _) (by rw [bigA_size, bigA_size]) (bigA_one _) ?_) | (refine wpList_load_row rfl 51 (.tmp 2) rfl (w.heap.size) (by simp [Act.eval, Act.put]) _ _ _ _ N2.out Try.underlying51 rfl (infoBig' _) ?_) | (refine wpList_load_row rfl 51 (.tmp 6) rfl (w1.heap.size) (by simp [Act.eval, Act.put]) _ _ _ _ G2.out Try.underlying51 rfl (infoBig' _) ?_))
  refine (HD1.out _).mono ?_
  rintro e w2 ⟨rfl, hb2⟩
  have hs2 := hb2.size
  simp only [World.size_alloc, size_setRow] at hs2
  have D3 := hid (show w2.heap[w.heap.size + 1]? = some (.cells (bigA (d)) 51 (0, 0)) from below_at hb2 (by simp; omega) D2.out)
  have R3 := hid (show w2.heap[w.heap.size + 1 + 1]? = some (.cells #[.int .u64 0, .int .u64 0] 29 (0, 0)) from below_at hb2 (by simp; omega) R2_.out)
  have G3 := hid (show w2.heap[w1.heap.size]? = some (.cells (bigA (g)) 51 (0, 0)) from below_at hb2 (by simp) G2.out)
  have Bl3 : Below w.heap.size w w2 := Below.trans Bl2 (hb2.mono (by simp; omega))
  clear hb2 S1 N2 D2 R2_ G2 Bl2
  have S2 := hid (show ((w2.alloc (.cells (bigA 0) 51)).alloc (.cells (bigA 0) 51)).heap[w2.heap.size]? = some (.cells (bigA (0)) 51 (0, 0)) from alloc_at_lt (alloc_at _ _) _)
  have T2 := hid (show (((w2.alloc (.cells (bigA 0) 51)).alloc (.cells (bigA 0) 51)).setRow (w2.heap.size) (bigA (x))).heap[w2.heap.size + 1]? = some (.cells (bigA (0)) 51 (0, 0)) from setRow_ne (by omega) (alloc_at' _ (by simp)) _)
  have D4 := hid (show ((((w2.alloc (.cells (bigA 0) 51)).alloc (.cells (bigA 0) 51)).setRow (w2.heap.size) (bigA (x))).setRow (w2.heap.size + 1) (bigA (p))).heap[w.heap.size + 1]? = some (.cells (bigA (d)) 51 (0, 0)) from setRow_ne (by omega) (setRow_ne (by omega) (alloc_at_lt (alloc_at_lt D3.out _) _) _) _)
  have R4 := hid (show ((((w2.alloc (.cells (bigA 0) 51)).alloc (.cells (bigA 0) 51)).setRow (w2.heap.size) (bigA (x))).setRow (w2.heap.size + 1) (bigA (p))).heap[w.heap.size + 1 + 1]? = some (.cells #[.int .u64 0, .int .u64 0] 29 (0, 0)) from setRow_ne (by omega) (setRow_ne (by omega) (alloc_at_lt (alloc_at_lt R3.out _) _) _) _)
  have G4 := hid (show ((((w2.alloc (.cells (bigA 0) 51)).alloc (.cells (bigA 0) 51)).setRow (w2.heap.size) (bigA (x))).setRow (w2.heap.size + 1) (bigA (p))).heap[w1.heap.size]? = some (.cells (bigA (g)) 51 (0, 0)) from setRow_ne (by omega) (setRow_ne (by omega) (alloc_at_lt (alloc_at_lt G3.out _) _) _) _)
  have V2 := hid (show ((((w2.alloc (.cells (bigA 0) 51)).alloc (.cells (bigA 0) 51)).setRow (w2.heap.size) (bigA (x))).setRow (w2.heap.size + 1) (bigA (p))).heap[w2.heap.size]? = some (.cells (bigA (x)) 51 (0, 0)) from setRow_ne (by omega) (setRow_at S2.out _) _)
  have Bl4 : Below w.heap.size w ((((w2.alloc (.cells (bigA 0) 51)).alloc (.cells (bigA 0) 51)).setRow (w2.heap.size) (bigA (x))).setRow (w2.heap.size + 1) (bigA (p))) := below_setRow (below_setRow ((Bl3.alloc (by omega) _).alloc (by simp; omega) _) (by omega) _) (by omega) _
  clear D3 R3 G3 Bl3
  go_wp2_with (first | (refine wpList_store_row rfl 51 (.tmp 7) (.tmp 22) rfl (w2.heap.size) (bigA (x)) (by simp [Act.eval, Act.put]) (by simp [Act.eval, Act.put]) _ _ S2.out (infoBig' _) (by rw [bigA_size, bigA_size]) (bigA_one _) ?_) | (refine wpList_store_row rfl 51 (.tmp 8) (.tmp 23) rfl (w2.heap.size + 1) (bigA (p)) (by simp [Act.eval, Act.put]) (by simp [Act.eval, Act.put]) _ _ T2.out (infoBig' _) (by rw [bigA_size, bigA_size]) (bigA_one _) ?_) | (refine wpList_load_row rfl 51 (.tmp 3) rfl (w.heap.size + 1) (by simp [Act.eval, Act.put]) _ _ _ _ D4.out Try.underlying51 rfl (infoBig' _) ?_) | (refine wpList_load_row rfl 51 (.tmp 6) rfl (w1.heap.size) (by simp [Act.eval, Act.put]) _ _ _ _ G4.out Try.underlying51 rfl (infoBig' _) ?_))
  refine (HD2.out _).mono ?_
  rintro e w3 ⟨rfl, hb3⟩
  have hs3 := hb3.size
  simp only [World.size_alloc, size_setRow] at hs3
  have R5 := hid (show w3.heap[w.heap.size + 1 + 1]? = some (.cells #[.int .u64 0, .int .u64 0] 29 (0, 0)) from below_at hb3 (by simp; omega) R4.out)
  have X5 := hid (show w3.heap[w2.heap.size]? = some (.cells (bigA (x)) 51 (0, 0)) from below_at hb3 (by simp; omega) V2.out)
  have Bl5 : Below w.heap.size w w3 := Below.trans Bl4 (hb3.mono (by simp; omega))
  clear hb3 S2 T2 D4 R4 G4 V2 Bl4
  have S3 := hid (show ((w3.alloc (.cells (bigA 0) 51)).alloc (.cells (bigA 0) 51)).heap[w3.heap.size]? = some (.cells (bigA (0)) 51 (0, 0)) from alloc_at_lt (alloc_at _ _) _)
  have T3 := hid (show (((w3.alloc (.cells (bigA 0) 51)).alloc (.cells (bigA 0) 51)).setRow (w3.heap.size) (bigA (y))).heap[w3.heap.size + 1]? = some (.cells (bigA (0)) 51 (0, 0)) from setRow_ne (by omega) (alloc_at' _ (by simp)) _)
  have R6 := hid (show ((((w3.alloc (.cells (bigA 0) 51)).alloc (.cells (bigA 0) 51)).setRow (w3.heap.size) (bigA (y))).setRow (w3.heap.size + 1) (bigA (q))).heap[w.heap.size + 1 + 1]? = some (.cells #[.int .u64 0, .int .u64 0] 29 (0, 0)) from setRow_ne (by omega) (setRow_ne (by omega) (alloc_at_lt (alloc_at_lt R5.out _) _) _) _)
  have X6 := hid (show ((((w3.alloc (.cells (bigA 0) 51)).alloc (.cells (bigA 0) 51)).setRow (w3.heap.size) (bigA (y))).setRow (w3.heap.size + 1) (bigA (q))).heap[w2.heap.size]? = some (.cells (bigA (x)) 51 (0, 0)) from setRow_ne (by omega) (setRow_ne (by omega) (alloc_at_lt (alloc_at_lt X5.out _) _) _) _)
  have V3 := hid (show ((((w3.alloc (.cells (bigA 0) 51)).alloc (.cells (bigA 0) 51)).setRow (w3.heap.size) (bigA (y))).setRow (w3.heap.size + 1) (bigA (q))).heap[w3.heap.size]? = some (.cells (bigA (y)) 51 (0, 0)) from setRow_ne (by omega) (setRow_at S3.out _) _)
  have Bl6 : Below w.heap.size w ((((w3.alloc (.cells (bigA 0) 51)).alloc (.cells (bigA 0) 51)).setRow (w3.heap.size) (bigA (y))).setRow (w3.heap.size + 1) (bigA (q))) := below_setRow (below_setRow ((Bl5.alloc (by omega) _).alloc (by simp; omega) _) (by omega) _) (by omega) _
  clear R5 X5 Bl5
  go_wp2_with (first | (refine wpList_store_row rfl 51 (.tmp 9) (.tmp 28) rfl (w3.heap.size) (bigA (y)) (by simp [Act.eval, Act.put]) (by simp [Act.eval, Act.put]) _ _ S3.out (infoBig' _) (by rw [bigA_size, bigA_size]) (bigA_one _) ?_) | (refine wpList_store_row rfl 51 (.tmp 10) (.tmp 29) rfl (w3.heap.size + 1) (bigA (q)) (by simp [Act.eval, Act.put]) (by simp [Act.eval, Act.put]) _ _ T3.out (infoBig' _) (by rw [bigA_size, bigA_size]) (bigA_one _) ?_) | (refine wpList_load_row rfl 51 (.tmp 7) rfl (w2.heap.size) (by simp [Act.eval, Act.put]) _ _ _ _ X6.out Try.underlying51 rfl (infoBig' _) ?_))
  refine (HW1.out _).mono ?_
  rintro e w4 ⟨rfl, hb4⟩
  have hs4 := hb4.size
  simp only [World.size_alloc, size_setRow] at hs4
  have R7 := hid (show w4.heap[w.heap.size + 1 + 1]? = some (.cells #[.int .u64 0, .int .u64 0] 29 (0, 0)) from below_at hb4 (by simp; omega) R6.out)
  have Y7 := hid (show w4.heap[w3.heap.size]? = some (.cells (bigA (y)) 51 (0, 0)) from below_at hb4 (by simp; omega) V3.out)
  have Bl7 : Below w.heap.size w w4 := Below.trans Bl6 (hb4.mono (by simp; omega))
  clear hb4 S3 T3 R6 X6 V3 Bl6
  go_wp2_with (first | (refine wpList_load_row rfl 51 (.tmp 9) rfl (w3.heap.size) (by simp [Act.eval, Act.put]) _ _ _ _ Y7.out Try.underlying51 rfl (infoBig' _) ?_))
  refine (HW2.out _).mono ?_
  rintro e w5 ⟨rfl, hb5⟩
  have hs5 := hb5.size
  have X8 : w5.heap[w.heap.size + 1 + 1]? = some (.cells #[.int .u64 0, .int .u64 0] 29 (0, 0)) := below_at hb5 (by omega) R7.out
  have B8 : Below w.heap.size w w5 := Below.trans Bl7 (hb5.mono (by omega))
  clear hb5 R7 Y7 Bl7
  obtain ⟨c0, c1, cf⟩ := two X8
  have HX8 := hid X8
  clear X8
  go_wp2
  have X8 := HX8.out
  refine ret_row2 rfl (w.heap.size + 1 + 1) #[.int .u64 0, .int .u64 0] 29 _ rfl Try.underlying29 rfl infoR' rfl (by apply Exists.intro; refine ⟨?_, ?_⟩; (focus ((repeat (first | (with_reducible assumption) | (with_reducible exact alloc_at _ _) | ((with_reducible apply alloc_at'); (simp; done)) | (with_reducible apply alloc_at_lt) | (with_reducible apply heap_drew_at) | (with_reducible apply heap_drewN_at) | (with_reducible apply heap_setCell_same) | ((with_reducible apply heap_set_ne); (first | omega | (dsimp only; omega) | (simp; done) | (simp; omega))) | (with_reducible apply setRow_at) | ((with_reducible apply setRow_ne); (first | omega | (dsimp only; omega) | (simp; done) | (simp; omega))))))); simp) ⟨rfl, (by repeat (first | with_reducible assumption | with_reducible exact Below.refl _ _ | with_reducible refine Below.drew ?_ | with_reducible refine below_drewN ?_ _ | with_reducible refine below_alloc ?_ _ | with_reducible refine Below.alloc ?_ (by first | omega | (simp; done) | (simp; omega)) _ | with_reducible refine Below.setCell ?_ (by first | omega | (simp; done) | (simp; omega)) _ | with_reducible refine below_setRow ?_ (by first | omega | (simp; done) | (simp; omega)) _))⟩
set_option maxRecDepth 100000 in
set_option maxHeartbeats 12000000 in
theorem low_o2 (n d g x y p q : Nat) (z1 z2 : Int) (w : World)
    (HG : Hid (∀ W, Calls Try.prog 39 #[.agg (bigA n), .agg (bigA d)] W fun e w' => e = .returned (.agg (bigA g)) ∧ Below W.heap.size W w'))
    (HD1 : Hid (∀ W, Calls Try.prog 40 #[.agg (bigA n), .agg (bigA g)] W fun e w' => e = .returned (.tuple #[.agg (bigA x), .agg (bigA p)]) ∧ Below W.heap.size W w'))
    (HD2 : Hid (∀ W, Calls Try.prog 40 #[.agg (bigA d), .agg (bigA g)] W fun e w' => e = .returned (.tuple #[.agg (bigA y), .agg (bigA q)]) ∧ Below W.heap.size W w'))
    (HW1 : Hid (∀ W, Calls Try.prog 41 #[.agg (bigA x)] W fun e w' => e = .returned (.tuple #[.int .u64 z1, .bool true]) ∧ Below W.heap.size W w'))
    (HW2 : Hid (∀ W, Calls Try.prog 41 #[.agg (bigA y)] W fun e w' => e = .returned (.tuple #[.int .u64 z2, .bool false]) ∧ Below W.heap.size W w')) :
    Calls Try.prog 29 #[.agg (bigA n), .agg (bigA d)] w fun e w' => e = .returned (.tuple #[.agg #[.int .u64 0, .int .u64 0], .int .i64 7]) ∧ Below w.heap.size w w' := by
  go_enter Try.func29, Try.ntmps29
  have N0 := hid (show (((w.alloc (.cells (bigA n) 51)).alloc (.cells (bigA d) 51)).alloc (.cells #[.int .u64 0, .int .u64 0] 29)).heap[w.heap.size]? = some (.cells (bigA (n)) 51 (0, 0)) from alloc_at_lt (alloc_at_lt (alloc_at _ _) _) _)
  have D0 := hid (show (((w.alloc (.cells (bigA n) 51)).alloc (.cells (bigA d) 51)).alloc (.cells #[.int .u64 0, .int .u64 0] 29)).heap[w.heap.size + 1]? = some (.cells (bigA (d)) 51 (0, 0)) from alloc_at_lt (alloc_at' _ (by simp)) _)
  have R0 := hid (show (((w.alloc (.cells (bigA n) 51)).alloc (.cells (bigA d) 51)).alloc (.cells #[.int .u64 0, .int .u64 0] 29)).heap[w.heap.size + 1 + 1]? = some (.cells #[.int .u64 0, .int .u64 0] 29 (0, 0)) from alloc_at' _ (by simp))
  have Bl0 : Below w.heap.size w (((w.alloc (.cells (bigA n) 51)).alloc (.cells (bigA d) 51)).alloc (.cells #[.int .u64 0, .int .u64 0] 29)) := (by repeat (first | with_reducible assumption | with_reducible exact Below.refl _ _ | with_reducible refine Below.drew ?_ | with_reducible refine below_drewN ?_ _ | with_reducible refine below_alloc ?_ _ | with_reducible refine Below.alloc ?_ (by first | omega | (simp; done) | (simp; omega)) _ | with_reducible refine Below.setCell ?_ (by first | omega | (simp; done) | (simp; omega)) _ | with_reducible refine below_setRow ?_ (by first | omega | (simp; done) | (simp; omega)) _))
  go_wp2_with (first | (refine wpList_load_row rfl 51 (.tmp 2) rfl (w.heap.size) (by simp [Act.eval, Act.put]) _ _ _ _ N0.out Try.underlying51 rfl (infoBig' _) ?_) | (refine wpList_load_row rfl 51 (.tmp 3) rfl (w.heap.size + 1) (by simp [Act.eval, Act.put]) _ _ _ _ D0.out Try.underlying51 rfl (infoBig' _) ?_))
  refine (HG.out _).mono ?_
  rintro e w1 ⟨rfl, hb1⟩
  have hs1 := hb1.size
  simp only [World.size_alloc] at hs1
  have N1 := hid (show w1.heap[w.heap.size]? = some (.cells (bigA (n)) 51 (0, 0)) from below_at hb1 (by first | omega | (simp; done) | (simp; omega)) N0.out)
  have D1 := hid (show w1.heap[w.heap.size + 1]? = some (.cells (bigA (d)) 51 (0, 0)) from below_at hb1 (by first | omega | (simp; done) | (simp; omega)) D0.out)
  have R1 := hid (show w1.heap[w.heap.size + 1 + 1]? = some (.cells #[.int .u64 0, .int .u64 0] 29 (0, 0)) from below_at hb1 (by first | omega | (simp; done) | (simp; omega)) R0.out)
  have Bl1 : Below w.heap.size w w1 := Below.trans Bl0 (hb1.mono (by first | omega | (simp; done) | (simp; omega)))
  clear hb1 N0 D0 R0 Bl0
  have S1 := hid (show (w1.alloc (.cells (bigA 0) 51)).heap[w1.heap.size]? = some (.cells (bigA (0)) 51 (0, 0)) from alloc_at _ _)
  have N2 := hid (show ((w1.alloc (.cells (bigA 0) 51)).setRow (w1.heap.size) (bigA (g))).heap[w.heap.size]? = some (.cells (bigA (n)) 51 (0, 0)) from setRow_ne (by omega) (alloc_at_lt N1.out _) _)
  have D2 := hid (show ((w1.alloc (.cells (bigA 0) 51)).setRow (w1.heap.size) (bigA (g))).heap[w.heap.size + 1]? = some (.cells (bigA (d)) 51 (0, 0)) from setRow_ne (by omega) (alloc_at_lt D1.out _) _)
  have R2_ := hid (show ((w1.alloc (.cells (bigA 0) 51)).setRow (w1.heap.size) (bigA (g))).heap[w.heap.size + 1 + 1]? = some (.cells #[.int .u64 0, .int .u64 0] 29 (0, 0)) from setRow_ne (by omega) (alloc_at_lt R1.out _) _)
  have G2 := hid (show ((w1.alloc (.cells (bigA 0) 51)).setRow (w1.heap.size) (bigA (g))).heap[w1.heap.size]? = some (.cells (bigA (g)) 51 (0, 0)) from setRow_at S1.out _)
  have Bl2 : Below w.heap.size w ((w1.alloc (.cells (bigA 0) 51)).setRow (w1.heap.size) (bigA (g))) := below_setRow (Bl1.alloc (by omega) _) (by omega) _
  clear N1 D1 R1 Bl1
  go_wp2_with (first | (refine wpList_store_row rfl 51 (.tmp 6) (.tmp 17) rfl (w1.heap.size) (bigA (g)) (by simp [Act.eval, Act.put]) (by simp [Act.eval, Act.put]) _ _ S1.out (infoBig' _) (by rw [bigA_size, bigA_size]) (bigA_one _) ?_) | (refine wpList_load_row rfl 51 (.tmp 2) rfl (w.heap.size) (by simp [Act.eval, Act.put]) _ _ _ _ N2.out Try.underlying51 rfl (infoBig' _) ?_) | (refine wpList_load_row rfl 51 (.tmp 6) rfl (w1.heap.size) (by simp [Act.eval, Act.put]) _ _ _ _ G2.out Try.underlying51 rfl (infoBig' _) ?_))
  refine (HD1.out _).mono ?_
  rintro e w2 ⟨rfl, hb2⟩
  have hs2 := hb2.size
  simp only [World.size_alloc, size_setRow] at hs2
  have D3 := hid (show w2.heap[w.heap.size + 1]? = some (.cells (bigA (d)) 51 (0, 0)) from below_at hb2 (by simp; omega) D2.out)
  have R3 := hid (show w2.heap[w.heap.size + 1 + 1]? = some (.cells #[.int .u64 0, .int .u64 0] 29 (0, 0)) from below_at hb2 (by simp; omega) R2_.out)
  have G3 := hid (show w2.heap[w1.heap.size]? = some (.cells (bigA (g)) 51 (0, 0)) from below_at hb2 (by simp) G2.out)
  have Bl3 : Below w.heap.size w w2 := Below.trans Bl2 (hb2.mono (by simp; omega))
  clear hb2 S1 N2 D2 R2_ G2 Bl2
  have S2 := hid (show ((w2.alloc (.cells (bigA 0) 51)).alloc (.cells (bigA 0) 51)).heap[w2.heap.size]? = some (.cells (bigA (0)) 51 (0, 0)) from alloc_at_lt (alloc_at _ _) _)
  have T2 := hid (show (((w2.alloc (.cells (bigA 0) 51)).alloc (.cells (bigA 0) 51)).setRow (w2.heap.size) (bigA (x))).heap[w2.heap.size + 1]? = some (.cells (bigA (0)) 51 (0, 0)) from setRow_ne (by omega) (alloc_at' _ (by simp)) _)
  have D4 := hid (show ((((w2.alloc (.cells (bigA 0) 51)).alloc (.cells (bigA 0) 51)).setRow (w2.heap.size) (bigA (x))).setRow (w2.heap.size + 1) (bigA (p))).heap[w.heap.size + 1]? = some (.cells (bigA (d)) 51 (0, 0)) from setRow_ne (by omega) (setRow_ne (by omega) (alloc_at_lt (alloc_at_lt D3.out _) _) _) _)
  have R4 := hid (show ((((w2.alloc (.cells (bigA 0) 51)).alloc (.cells (bigA 0) 51)).setRow (w2.heap.size) (bigA (x))).setRow (w2.heap.size + 1) (bigA (p))).heap[w.heap.size + 1 + 1]? = some (.cells #[.int .u64 0, .int .u64 0] 29 (0, 0)) from setRow_ne (by omega) (setRow_ne (by omega) (alloc_at_lt (alloc_at_lt R3.out _) _) _) _)
  have G4 := hid (show ((((w2.alloc (.cells (bigA 0) 51)).alloc (.cells (bigA 0) 51)).setRow (w2.heap.size) (bigA (x))).setRow (w2.heap.size + 1) (bigA (p))).heap[w1.heap.size]? = some (.cells (bigA (g)) 51 (0, 0)) from setRow_ne (by omega) (setRow_ne (by omega) (alloc_at_lt (alloc_at_lt G3.out _) _) _) _)
  have V2 := hid (show ((((w2.alloc (.cells (bigA 0) 51)).alloc (.cells (bigA 0) 51)).setRow (w2.heap.size) (bigA (x))).setRow (w2.heap.size + 1) (bigA (p))).heap[w2.heap.size]? = some (.cells (bigA (x)) 51 (0, 0)) from setRow_ne (by omega) (setRow_at S2.out _) _)
  have Bl4 : Below w.heap.size w ((((w2.alloc (.cells (bigA 0) 51)).alloc (.cells (bigA 0) 51)).setRow (w2.heap.size) (bigA (x))).setRow (w2.heap.size + 1) (bigA (p))) := below_setRow (below_setRow ((Bl3.alloc (by omega) _).alloc (by simp; omega) _) (by omega) _) (by omega) _
  clear D3 R3 G3 Bl3
  go_wp2_with (first | (refine wpList_store_row rfl 51 (.tmp 7) (.tmp 22) rfl (w2.heap.size) (bigA (x)) (by simp [Act.eval, Act.put]) (by simp [Act.eval, Act.put]) _ _ S2.out (infoBig' _) (by rw [bigA_size, bigA_size]) (bigA_one _) ?_) | (refine wpList_store_row rfl 51 (.tmp 8) (.tmp 23) rfl (w2.heap.size + 1) (bigA (p)) (by simp [Act.eval, Act.put]) (by simp [Act.eval, Act.put]) _ _ T2.out (infoBig' _) (by rw [bigA_size, bigA_size]) (bigA_one _) ?_) | (refine wpList_load_row rfl 51 (.tmp 3) rfl (w.heap.size + 1) (by simp [Act.eval, Act.put]) _ _ _ _ D4.out Try.underlying51 rfl (infoBig' _) ?_) | (refine wpList_load_row rfl 51 (.tmp 6) rfl (w1.heap.size) (by simp [Act.eval, Act.put]) _ _ _ _ G4.out Try.underlying51 rfl (infoBig' _) ?_))
  refine (HD2.out _).mono ?_
  rintro e w3 ⟨rfl, hb3⟩
  have hs3 := hb3.size
  simp only [World.size_alloc, size_setRow] at hs3
  have R5 := hid (show w3.heap[w.heap.size + 1 + 1]? = some (.cells #[.int .u64 0, .int .u64 0] 29 (0, 0)) from below_at hb3 (by simp; omega) R4.out)
  have X5 := hid (show w3.heap[w2.heap.size]? = some (.cells (bigA (x)) 51 (0, 0)) from below_at hb3 (by simp; omega) V2.out)
  have Bl5 : Below w.heap.size w w3 := Below.trans Bl4 (hb3.mono (by simp; omega))
  clear hb3 S2 T2 D4 R4 G4 V2 Bl4
  have S3 := hid (show ((w3.alloc (.cells (bigA 0) 51)).alloc (.cells (bigA 0) 51)).heap[w3.heap.size]? = some (.cells (bigA (0)) 51 (0, 0)) from alloc_at_lt (alloc_at _ _) _)
  have T3 := hid (show (((w3.alloc (.cells (bigA 0) 51)).alloc (.cells (bigA 0) 51)).setRow (w3.heap.size) (bigA (y))).heap[w3.heap.size + 1]? = some (.cells (bigA (0)) 51 (0, 0)) from setRow_ne (by omega) (alloc_at' _ (by simp)) _)
  have R6 := hid (show ((((w3.alloc (.cells (bigA 0) 51)).alloc (.cells (bigA 0) 51)).setRow (w3.heap.size) (bigA (y))).setRow (w3.heap.size + 1) (bigA (q))).heap[w.heap.size + 1 + 1]? = some (.cells #[.int .u64 0, .int .u64 0] 29 (0, 0)) from setRow_ne (by omega) (setRow_ne (by omega) (alloc_at_lt (alloc_at_lt R5.out _) _) _) _)
  have X6 := hid (show ((((w3.alloc (.cells (bigA 0) 51)).alloc (.cells (bigA 0) 51)).setRow (w3.heap.size) (bigA (y))).setRow (w3.heap.size + 1) (bigA (q))).heap[w2.heap.size]? = some (.cells (bigA (x)) 51 (0, 0)) from setRow_ne (by omega) (setRow_ne (by omega) (alloc_at_lt (alloc_at_lt X5.out _) _) _) _)
  have V3 := hid (show ((((w3.alloc (.cells (bigA 0) 51)).alloc (.cells (bigA 0) 51)).setRow (w3.heap.size) (bigA (y))).setRow (w3.heap.size + 1) (bigA (q))).heap[w3.heap.size]? = some (.cells (bigA (y)) 51 (0, 0)) from setRow_ne (by omega) (setRow_at S3.out _) _)
  have Bl6 : Below w.heap.size w ((((w3.alloc (.cells (bigA 0) 51)).alloc (.cells (bigA 0) 51)).setRow (w3.heap.size) (bigA (y))).setRow (w3.heap.size + 1) (bigA (q))) := below_setRow (below_setRow ((Bl5.alloc (by omega) _).alloc (by simp; omega) _) (by omega) _) (by omega) _
  clear R5 X5 Bl5
  go_wp2_with (first | (refine wpList_store_row rfl 51 (.tmp 9) (.tmp 28) rfl (w3.heap.size) (bigA (y)) (by simp [Act.eval, Act.put]) (by simp [Act.eval, Act.put]) _ _ S3.out (infoBig' _) (by rw [bigA_size, bigA_size]) (bigA_one _) ?_) | (refine wpList_store_row rfl 51 (.tmp 10) (.tmp 29) rfl (w3.heap.size + 1) (bigA (q)) (by simp [Act.eval, Act.put]) (by simp [Act.eval, Act.put]) _ _ T3.out (infoBig' _) (by rw [bigA_size, bigA_size]) (bigA_one _) ?_) | (refine wpList_load_row rfl 51 (.tmp 7) rfl (w2.heap.size) (by simp [Act.eval, Act.put]) _ _ _ _ X6.out Try.underlying51 rfl (infoBig' _) ?_))
  refine (HW1.out _).mono ?_
  rintro e w4 ⟨rfl, hb4⟩
  have hs4 := hb4.size
  simp only [World.size_alloc, size_setRow] at hs4
  have R7 := hid (show w4.heap[w.heap.size + 1 + 1]? = some (.cells #[.int .u64 0, .int .u64 0] 29 (0, 0)) from below_at hb4 (by simp; omega) R6.out)
  have Y7 := hid (show w4.heap[w3.heap.size]? = some (.cells (bigA (y)) 51 (0, 0)) from below_at hb4 (by simp; omega) V3.out)
  have Bl7 : Below w.heap.size w w4 := Below.trans Bl6 (hb4.mono (by simp; omega))
  clear hb4 S3 T3 R6 X6 V3 Bl6
  go_wp2_with (first | (refine wpList_load_row rfl 51 (.tmp 9) rfl (w3.heap.size) (by simp [Act.eval, Act.put]) _ _ _ _ Y7.out Try.underlying51 rfl (infoBig' _) ?_))
  refine (HW2.out _).mono ?_
  rintro e w5 ⟨rfl, hb5⟩
  have hs5 := hb5.size
  have X8 : w5.heap[w.heap.size + 1 + 1]? = some (.cells #[.int .u64 0, .int .u64 0] 29 (0, 0)) := below_at hb5 (by omega) R7.out
  have B8 : Below w.heap.size w w5 := Below.trans Bl7 (hb5.mono (by omega))
  clear hb5 R7 Y7 Bl7
  obtain ⟨c0, c1, cf⟩ := two X8
  have HX8 := hid X8
  clear X8
  go_wp2
  have X8 := HX8.out
  refine ret_row2 rfl (w.heap.size + 1 + 1) #[.int .u64 0, .int .u64 0] 29 _ rfl Try.underlying29 rfl infoR' rfl (by apply Exists.intro; refine ⟨?_, ?_⟩; (focus ((repeat (first | (with_reducible assumption) | (with_reducible exact alloc_at _ _) | ((with_reducible apply alloc_at'); (simp; done)) | (with_reducible apply alloc_at_lt) | (with_reducible apply heap_drew_at) | (with_reducible apply heap_drewN_at) | (with_reducible apply heap_setCell_same) | ((with_reducible apply heap_set_ne); (first | omega | (dsimp only; omega) | (simp; done) | (simp; omega))) | (with_reducible apply setRow_at) | ((with_reducible apply setRow_ne); (first | omega | (dsimp only; omega) | (simp; done) | (simp; omega))))))); simp) ⟨rfl, (by repeat (first | with_reducible assumption | with_reducible exact Below.refl _ _ | with_reducible refine Below.drew ?_ | with_reducible refine below_drewN ?_ _ | with_reducible refine below_alloc ?_ _ | with_reducible refine Below.alloc ?_ (by first | omega | (simp; done) | (simp; omega)) _ | with_reducible refine Below.setCell ?_ (by first | omega | (simp; done) | (simp; omega)) _ | with_reducible refine below_setRow ?_ (by first | omega | (simp; done) | (simp; omega)) _))⟩
set_option maxRecDepth 100000 in
set_option maxHeartbeats 12000000 in
theorem low_ok (n d g x y p q : Nat) (z1 z2 : Int) (w : World)
    (HG : Hid (∀ W, Calls Try.prog 39 #[.agg (bigA n), .agg (bigA d)] W fun e w' => e = .returned (.agg (bigA g)) ∧ Below W.heap.size W w'))
    (HD1 : Hid (∀ W, Calls Try.prog 40 #[.agg (bigA n), .agg (bigA g)] W fun e w' => e = .returned (.tuple #[.agg (bigA x), .agg (bigA p)]) ∧ Below W.heap.size W w'))
    (HD2 : Hid (∀ W, Calls Try.prog 40 #[.agg (bigA d), .agg (bigA g)] W fun e w' => e = .returned (.tuple #[.agg (bigA y), .agg (bigA q)]) ∧ Below W.heap.size W w'))
    (HW1 : Hid (∀ W, Calls Try.prog 41 #[.agg (bigA x)] W fun e w' => e = .returned (.tuple #[.int .u64 z1, .bool true]) ∧ Below W.heap.size W w'))
    (HW2 : Hid (∀ W, Calls Try.prog 41 #[.agg (bigA y)] W fun e w' => e = .returned (.tuple #[.int .u64 z2, .bool true]) ∧ Below W.heap.size W w')) :
    Calls Try.prog 29 #[.agg (bigA n), .agg (bigA d)] w fun e w' => e = .returned (.tuple #[.agg #[.int .u64 z1, .int .u64 z2], .int .i64 0]) ∧ Below w.heap.size w w' := by
  go_enter Try.func29, Try.ntmps29
  have N0 := hid (show (((w.alloc (.cells (bigA n) 51)).alloc (.cells (bigA d) 51)).alloc (.cells #[.int .u64 0, .int .u64 0] 29)).heap[w.heap.size]? = some (.cells (bigA (n)) 51 (0, 0)) from alloc_at_lt (alloc_at_lt (alloc_at _ _) _) _)
  have D0 := hid (show (((w.alloc (.cells (bigA n) 51)).alloc (.cells (bigA d) 51)).alloc (.cells #[.int .u64 0, .int .u64 0] 29)).heap[w.heap.size + 1]? = some (.cells (bigA (d)) 51 (0, 0)) from alloc_at_lt (alloc_at' _ (by simp)) _)
  have R0 := hid (show (((w.alloc (.cells (bigA n) 51)).alloc (.cells (bigA d) 51)).alloc (.cells #[.int .u64 0, .int .u64 0] 29)).heap[w.heap.size + 1 + 1]? = some (.cells #[.int .u64 0, .int .u64 0] 29 (0, 0)) from alloc_at' _ (by simp))
  have Bl0 : Below w.heap.size w (((w.alloc (.cells (bigA n) 51)).alloc (.cells (bigA d) 51)).alloc (.cells #[.int .u64 0, .int .u64 0] 29)) := (by repeat (first | with_reducible assumption | with_reducible exact Below.refl _ _ | with_reducible refine Below.drew ?_ | with_reducible refine below_drewN ?_ _ | with_reducible refine below_alloc ?_ _ | with_reducible refine Below.alloc ?_ (by first | omega | (simp; done) | (simp; omega)) _ | with_reducible refine Below.setCell ?_ (by first | omega | (simp; done) | (simp; omega)) _ | with_reducible refine below_setRow ?_ (by first | omega | (simp; done) | (simp; omega)) _))
  go_wp2_with (first | (refine wpList_load_row rfl 51 (.tmp 2) rfl (w.heap.size) (by simp [Act.eval, Act.put]) _ _ _ _ N0.out Try.underlying51 rfl (infoBig' _) ?_) | (refine wpList_load_row rfl 51 (.tmp 3) rfl (w.heap.size + 1) (by simp [Act.eval, Act.put]) _ _ _ _ D0.out Try.underlying51 rfl (infoBig' _) ?_))
  refine (HG.out _).mono ?_
  rintro e w1 ⟨rfl, hb1⟩
  have hs1 := hb1.size
  simp only [World.size_alloc] at hs1
  have N1 := hid (show w1.heap[w.heap.size]? = some (.cells (bigA (n)) 51 (0, 0)) from below_at hb1 (by first | omega | (simp; done) | (simp; omega)) N0.out)
  have D1 := hid (show w1.heap[w.heap.size + 1]? = some (.cells (bigA (d)) 51 (0, 0)) from below_at hb1 (by first | omega | (simp; done) | (simp; omega)) D0.out)
  have R1 := hid (show w1.heap[w.heap.size + 1 + 1]? = some (.cells #[.int .u64 0, .int .u64 0] 29 (0, 0)) from below_at hb1 (by first | omega | (simp; done) | (simp; omega)) R0.out)
  have Bl1 : Below w.heap.size w w1 := Below.trans Bl0 (hb1.mono (by first | omega | (simp; done) | (simp; omega)))
  clear hb1 N0 D0 R0 Bl0
  have S1 := hid (show (w1.alloc (.cells (bigA 0) 51)).heap[w1.heap.size]? = some (.cells (bigA (0)) 51 (0, 0)) from alloc_at _ _)
  have N2 := hid (show ((w1.alloc (.cells (bigA 0) 51)).setRow (w1.heap.size) (bigA (g))).heap[w.heap.size]? = some (.cells (bigA (n)) 51 (0, 0)) from setRow_ne (by omega) (alloc_at_lt N1.out _) _)
  have D2 := hid (show ((w1.alloc (.cells (bigA 0) 51)).setRow (w1.heap.size) (bigA (g))).heap[w.heap.size + 1]? = some (.cells (bigA (d)) 51 (0, 0)) from setRow_ne (by omega) (alloc_at_lt D1.out _) _)
  have R2_ := hid (show ((w1.alloc (.cells (bigA 0) 51)).setRow (w1.heap.size) (bigA (g))).heap[w.heap.size + 1 + 1]? = some (.cells #[.int .u64 0, .int .u64 0] 29 (0, 0)) from setRow_ne (by omega) (alloc_at_lt R1.out _) _)
  have G2 := hid (show ((w1.alloc (.cells (bigA 0) 51)).setRow (w1.heap.size) (bigA (g))).heap[w1.heap.size]? = some (.cells (bigA (g)) 51 (0, 0)) from setRow_at S1.out _)
  have Bl2 : Below w.heap.size w ((w1.alloc (.cells (bigA 0) 51)).setRow (w1.heap.size) (bigA (g))) := below_setRow (Bl1.alloc (by omega) _) (by omega) _
  clear N1 D1 R1 Bl1
  go_wp2_with (first | (refine wpList_store_row rfl 51 (.tmp 6) (.tmp 17) rfl (w1.heap.size) (bigA (g)) (by simp [Act.eval, Act.put]) (by simp [Act.eval, Act.put]) _ _ S1.out (infoBig' _) (by rw [bigA_size, bigA_size]) (bigA_one _) ?_) | (refine wpList_load_row rfl 51 (.tmp 2) rfl (w.heap.size) (by simp [Act.eval, Act.put]) _ _ _ _ N2.out Try.underlying51 rfl (infoBig' _) ?_) | (refine wpList_load_row rfl 51 (.tmp 6) rfl (w1.heap.size) (by simp [Act.eval, Act.put]) _ _ _ _ G2.out Try.underlying51 rfl (infoBig' _) ?_))
  refine (HD1.out _).mono ?_
  rintro e w2 ⟨rfl, hb2⟩
  have hs2 := hb2.size
  simp only [World.size_alloc, size_setRow] at hs2
  have D3 := hid (show w2.heap[w.heap.size + 1]? = some (.cells (bigA (d)) 51 (0, 0)) from below_at hb2 (by simp; omega) D2.out)
  have R3 := hid (show w2.heap[w.heap.size + 1 + 1]? = some (.cells #[.int .u64 0, .int .u64 0] 29 (0, 0)) from below_at hb2 (by simp; omega) R2_.out)
  have G3 := hid (show w2.heap[w1.heap.size]? = some (.cells (bigA (g)) 51 (0, 0)) from below_at hb2 (by simp) G2.out)
  have Bl3 : Below w.heap.size w w2 := Below.trans Bl2 (hb2.mono (by simp; omega))
  clear hb2 S1 N2 D2 R2_ G2 Bl2
  have S2 := hid (show ((w2.alloc (.cells (bigA 0) 51)).alloc (.cells (bigA 0) 51)).heap[w2.heap.size]? = some (.cells (bigA (0)) 51 (0, 0)) from alloc_at_lt (alloc_at _ _) _)
  have T2 := hid (show (((w2.alloc (.cells (bigA 0) 51)).alloc (.cells (bigA 0) 51)).setRow (w2.heap.size) (bigA (x))).heap[w2.heap.size + 1]? = some (.cells (bigA (0)) 51 (0, 0)) from setRow_ne (by omega) (alloc_at' _ (by simp)) _)
  have D4 := hid (show ((((w2.alloc (.cells (bigA 0) 51)).alloc (.cells (bigA 0) 51)).setRow (w2.heap.size) (bigA (x))).setRow (w2.heap.size + 1) (bigA (p))).heap[w.heap.size + 1]? = some (.cells (bigA (d)) 51 (0, 0)) from setRow_ne (by omega) (setRow_ne (by omega) (alloc_at_lt (alloc_at_lt D3.out _) _) _) _)
  have R4 := hid (show ((((w2.alloc (.cells (bigA 0) 51)).alloc (.cells (bigA 0) 51)).setRow (w2.heap.size) (bigA (x))).setRow (w2.heap.size + 1) (bigA (p))).heap[w.heap.size + 1 + 1]? = some (.cells #[.int .u64 0, .int .u64 0] 29 (0, 0)) from setRow_ne (by omega) (setRow_ne (by omega) (alloc_at_lt (alloc_at_lt R3.out _) _) _) _)
  have G4 := hid (show ((((w2.alloc (.cells (bigA 0) 51)).alloc (.cells (bigA 0) 51)).setRow (w2.heap.size) (bigA (x))).setRow (w2.heap.size + 1) (bigA (p))).heap[w1.heap.size]? = some (.cells (bigA (g)) 51 (0, 0)) from setRow_ne (by omega) (setRow_ne (by omega) (alloc_at_lt (alloc_at_lt G3.out _) _) _) _)
  have V2 := hid (show ((((w2.alloc (.cells (bigA 0) 51)).alloc (.cells (bigA 0) 51)).setRow (w2.heap.size) (bigA (x))).setRow (w2.heap.size + 1) (bigA (p))).heap[w2.heap.size]? = some (.cells (bigA (x)) 51 (0, 0)) from setRow_ne (by omega) (setRow_at S2.out _) _)
  have Bl4 : Below w.heap.size w ((((w2.alloc (.cells (bigA 0) 51)).alloc (.cells (bigA 0) 51)).setRow (w2.heap.size) (bigA (x))).setRow (w2.heap.size + 1) (bigA (p))) := below_setRow (below_setRow ((Bl3.alloc (by omega) _).alloc (by simp; omega) _) (by omega) _) (by omega) _
  clear D3 R3 G3 Bl3
  go_wp2_with (first | (refine wpList_store_row rfl 51 (.tmp 7) (.tmp 22) rfl (w2.heap.size) (bigA (x)) (by simp [Act.eval, Act.put]) (by simp [Act.eval, Act.put]) _ _ S2.out (infoBig' _) (by rw [bigA_size, bigA_size]) (bigA_one _) ?_) | (refine wpList_store_row rfl 51 (.tmp 8) (.tmp 23) rfl (w2.heap.size + 1) (bigA (p)) (by simp [Act.eval, Act.put]) (by simp [Act.eval, Act.put]) _ _ T2.out (infoBig' _) (by rw [bigA_size, bigA_size]) (bigA_one _) ?_) | (refine wpList_load_row rfl 51 (.tmp 3) rfl (w.heap.size + 1) (by simp [Act.eval, Act.put]) _ _ _ _ D4.out Try.underlying51 rfl (infoBig' _) ?_) | (refine wpList_load_row rfl 51 (.tmp 6) rfl (w1.heap.size) (by simp [Act.eval, Act.put]) _ _ _ _ G4.out Try.underlying51 rfl (infoBig' _) ?_))
  refine (HD2.out _).mono ?_
  rintro e w3 ⟨rfl, hb3⟩
  have hs3 := hb3.size
  simp only [World.size_alloc, size_setRow] at hs3
  have R5 := hid (show w3.heap[w.heap.size + 1 + 1]? = some (.cells #[.int .u64 0, .int .u64 0] 29 (0, 0)) from below_at hb3 (by simp; omega) R4.out)
  have X5 := hid (show w3.heap[w2.heap.size]? = some (.cells (bigA (x)) 51 (0, 0)) from below_at hb3 (by simp; omega) V2.out)
  have Bl5 : Below w.heap.size w w3 := Below.trans Bl4 (hb3.mono (by simp; omega))
  clear hb3 S2 T2 D4 R4 G4 V2 Bl4
  have S3 := hid (show ((w3.alloc (.cells (bigA 0) 51)).alloc (.cells (bigA 0) 51)).heap[w3.heap.size]? = some (.cells (bigA (0)) 51 (0, 0)) from alloc_at_lt (alloc_at _ _) _)
  have T3 := hid (show (((w3.alloc (.cells (bigA 0) 51)).alloc (.cells (bigA 0) 51)).setRow (w3.heap.size) (bigA (y))).heap[w3.heap.size + 1]? = some (.cells (bigA (0)) 51 (0, 0)) from setRow_ne (by omega) (alloc_at' _ (by simp)) _)
  have R6 := hid (show ((((w3.alloc (.cells (bigA 0) 51)).alloc (.cells (bigA 0) 51)).setRow (w3.heap.size) (bigA (y))).setRow (w3.heap.size + 1) (bigA (q))).heap[w.heap.size + 1 + 1]? = some (.cells #[.int .u64 0, .int .u64 0] 29 (0, 0)) from setRow_ne (by omega) (setRow_ne (by omega) (alloc_at_lt (alloc_at_lt R5.out _) _) _) _)
  have X6 := hid (show ((((w3.alloc (.cells (bigA 0) 51)).alloc (.cells (bigA 0) 51)).setRow (w3.heap.size) (bigA (y))).setRow (w3.heap.size + 1) (bigA (q))).heap[w2.heap.size]? = some (.cells (bigA (x)) 51 (0, 0)) from setRow_ne (by omega) (setRow_ne (by omega) (alloc_at_lt (alloc_at_lt X5.out _) _) _) _)
  have V3 := hid (show ((((w3.alloc (.cells (bigA 0) 51)).alloc (.cells (bigA 0) 51)).setRow (w3.heap.size) (bigA (y))).setRow (w3.heap.size + 1) (bigA (q))).heap[w3.heap.size]? = some (.cells (bigA (y)) 51 (0, 0)) from setRow_ne (by omega) (setRow_at S3.out _) _)
  have Bl6 : Below w.heap.size w ((((w3.alloc (.cells (bigA 0) 51)).alloc (.cells (bigA 0) 51)).setRow (w3.heap.size) (bigA (y))).setRow (w3.heap.size + 1) (bigA (q))) := below_setRow (below_setRow ((Bl5.alloc (by omega) _).alloc (by simp; omega) _) (by omega) _) (by omega) _
  clear R5 X5 Bl5
  go_wp2_with (first | (refine wpList_store_row rfl 51 (.tmp 9) (.tmp 28) rfl (w3.heap.size) (bigA (y)) (by simp [Act.eval, Act.put]) (by simp [Act.eval, Act.put]) _ _ S3.out (infoBig' _) (by rw [bigA_size, bigA_size]) (bigA_one _) ?_) | (refine wpList_store_row rfl 51 (.tmp 10) (.tmp 29) rfl (w3.heap.size + 1) (bigA (q)) (by simp [Act.eval, Act.put]) (by simp [Act.eval, Act.put]) _ _ T3.out (infoBig' _) (by rw [bigA_size, bigA_size]) (bigA_one _) ?_) | (refine wpList_load_row rfl 51 (.tmp 7) rfl (w2.heap.size) (by simp [Act.eval, Act.put]) _ _ _ _ X6.out Try.underlying51 rfl (infoBig' _) ?_))
  refine (HW1.out _).mono ?_
  rintro e w4 ⟨rfl, hb4⟩
  have hs4 := hb4.size
  simp only [World.size_alloc, size_setRow] at hs4
  have R7 := hid (show w4.heap[w.heap.size + 1 + 1]? = some (.cells #[.int .u64 0, .int .u64 0] 29 (0, 0)) from below_at hb4 (by simp; omega) R6.out)
  have Y7 := hid (show w4.heap[w3.heap.size]? = some (.cells (bigA (y)) 51 (0, 0)) from below_at hb4 (by simp; omega) V3.out)
  have Bl7 : Below w.heap.size w w4 := Below.trans Bl6 (hb4.mono (by simp; omega))
  clear hb4 S3 T3 R6 X6 V3 Bl6
  go_wp2_with (first | (refine wpList_load_row rfl 51 (.tmp 9) rfl (w3.heap.size) (by simp [Act.eval, Act.put]) _ _ _ _ Y7.out Try.underlying51 rfl (infoBig' _) ?_))
  refine (HW2.out _).mono ?_
  rintro e w5 ⟨rfl, hb5⟩
  have hs5 := hb5.size
  have X8 : w5.heap[w.heap.size + 1 + 1]? = some (.cells #[.int .u64 0, .int .u64 0] 29 (0, 0)) := below_at hb5 (by omega) R7.out
  have B8 : Below w.heap.size w w5 := Below.trans Bl7 (hb5.mono (by omega))
  clear hb5 R7 Y7 Bl7
  obtain ⟨c0, c1, cf⟩ := two X8
  have HX8 := hid X8
  clear X8
  go_wp2
  have X8 := HX8.out
  refine ret_row2 rfl (w.heap.size + 1 + 1) #[.int .u64 z1, .int .u64 z2] 29 _ rfl Try.underlying29 rfl infoR' rfl (by apply Exists.intro; refine ⟨?_, ?_⟩; (focus ((repeat (first | (with_reducible assumption) | (with_reducible exact alloc_at _ _) | ((with_reducible apply alloc_at'); (simp; done)) | (with_reducible apply alloc_at_lt) | (with_reducible apply heap_drew_at) | (with_reducible apply heap_drewN_at) | (with_reducible apply heap_setCell_same) | ((with_reducible apply heap_set_ne); (first | omega | (dsimp only; omega) | (simp; done) | (simp; omega))) | (with_reducible apply setRow_at) | ((with_reducible apply setRow_ne); (first | omega | (dsimp only; omega) | (simp; done) | (simp; omega))))))); simp) ⟨rfl, (by repeat (first | with_reducible assumption | with_reducible exact Below.refl _ _ | with_reducible refine Below.drew ?_ | with_reducible refine below_drewN ?_ _ | with_reducible refine below_alloc ?_ _ | with_reducible refine Below.alloc ?_ (by first | omega | (simp; done) | (simp; omega)) _ | with_reducible refine Below.setCell ?_ (by first | omega | (simp; done) | (simp; omega)) _ | with_reducible refine below_setRow ?_ (by first | omega | (simp; done) | (simp; omega)) _))⟩
end Go.Proofs.Ytbkopmgfkokmgaa
