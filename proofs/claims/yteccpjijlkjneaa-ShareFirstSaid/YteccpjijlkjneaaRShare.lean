/- The contract of the reference's Share. No condition on the vectors and the weight. -/
import Derived.Test.YteccpjijlkjneaaOver
import Derived.Test.YteccpjijlkjneaaShr
import Derived.Test.YteccpjijlkjneaaVec1
namespace Go.Proofs.Yteccpjijlkjneaa
open Go.RowKit
/-- The greatest so far, behind k places. -/
def bk (a b c d a' b' c' d' : Int) : Nat → Int × Int
  | 0 => (0, 1)
  | 1 => stp (0, 1) a a'
  | 2 => stp (stp (0, 1) a a') b b'
  | 3 => stp (stp (stp (0, 1) a a') b b') c c'
  | _ => best a b c d a' b' c' d'
set_option maxHeartbeats 4000000 in
theorem rshare_any (a b c d a' b' c' d' wt : Int) (w : World) :
    Calls Try.prog 26 #[.agg #[.int .i64 a, .int .i64 b, .int .i64 c, .int .i64 d], .agg #[.int .i64 a', .int .i64 b', .int .i64 c', .int .i64 d'], .int .i64 wt] w fun e w' => e = .returned (.tuple #[.agg #[.int .u64 (shareR a b c d a' b' c' d' wt).1.1, .int .u64 (shareR a b c d a' b' c' d' wt).1.2], .int .i64 (shareR a b c d a' b' c' d' wt).2]) ∧ Below w.heap.size w w' := by
  by_cases hx : formedB a b c d = true
  · by_cases hy : formedB a' b' c' d' = true
    · by_cases hw : wt < 1 ∨ 1000 < wt
      · have E := hid (shareR_range hx hy hw)
        have hw1 : decide (wt < 1) = true ∨ (decide (wt < 1) = false ∧ decide (1000 < wt) = true) := by
          by_cases h : wt < 1
          · exact .inl (by simpa using h)
          · exact .inr ⟨by simpa using h, by simpa using hw.resolve_left h⟩
        clear hw
        rcases hw1 with h1 | ⟨h1, h2⟩
        all_goals
          skip
          go_enter Try.func26, Try.ntmps26
          go_wp2_with fail
          refine (rformed_any _ _ _ _ _).mono ?_
          rintro e w1 ⟨rfl, hb1⟩
          have hs1 := hb1.size
          simp only [World.size_alloc] at hs1
          have X1 : w1.heap[w.heap.size]? = some (.cells #[.int .i64 a, .int .i64 b, .int .i64 c, .int .i64 d] 23 (0, 0)) := below_at hb1 (by first | omega | (simp; done) | (simp; omega)) (by (repeat (first | (with_reducible assumption) | (with_reducible exact alloc_at _ _) | ((with_reducible apply alloc_at'); (simp; done)) | (with_reducible apply alloc_at_lt) | (with_reducible apply heap_drew_at) | (with_reducible apply heap_drewN_at) | (with_reducible apply heap_setCell_same) | ((with_reducible apply heap_set_ne); (first | omega | (dsimp only; omega) | (simp; done) | (simp; omega))) | (with_reducible apply setRow_at) | ((with_reducible apply setRow_ne); (first | omega | (dsimp only; omega) | (simp; done) | (simp; omega))))))
          have Y1 : w1.heap[w.heap.size + 1]? = some (.cells #[.int .i64 a', .int .i64 b', .int .i64 c', .int .i64 d'] 23 (0, 0)) := below_at hb1 (by first | omega | (simp; done) | (simp; omega)) (by (repeat (first | (with_reducible assumption) | (with_reducible exact alloc_at _ _) | ((with_reducible apply alloc_at'); (simp; done)) | (with_reducible apply alloc_at_lt) | (with_reducible apply heap_drew_at) | (with_reducible apply heap_drewN_at) | (with_reducible apply heap_setCell_same) | ((with_reducible apply heap_set_ne); (first | omega | (dsimp only; omega) | (simp; done) | (simp; omega))) | (with_reducible apply setRow_at) | ((with_reducible apply setRow_ne); (first | omega | (dsimp only; omega) | (simp; done) | (simp; omega))))))
          have Z1 : w1.heap[w.heap.size + 1 + 1]? = some (.cells #[.int .u64 0, .int .u64 0] 64 (0, 0)) := below_at hb1 (by first | omega | (simp; done) | (simp; omega)) (by (repeat (first | (with_reducible assumption) | (with_reducible exact alloc_at _ _) | ((with_reducible apply alloc_at'); (simp; done)) | (with_reducible apply alloc_at_lt) | (with_reducible apply heap_drew_at) | (with_reducible apply heap_drewN_at) | (with_reducible apply heap_setCell_same) | ((with_reducible apply heap_set_ne); (first | omega | (dsimp only; omega) | (simp; done) | (simp; omega))) | (with_reducible apply setRow_at) | ((with_reducible apply setRow_ne); (first | omega | (dsimp only; omega) | (simp; done) | (simp; omega))))))
          have B1 : Below w.heap.size w w1 := Below.trans (by repeat (first | with_reducible assumption | with_reducible exact Below.refl _ _ | with_reducible refine Below.drew ?_ | with_reducible refine below_drewN ?_ _ | with_reducible refine below_alloc ?_ _ | with_reducible refine Below.alloc ?_ (by first | omega | (simp; done) | (simp; omega)) _ | with_reducible refine Below.setCell ?_ (by first | omega | (simp; done) | (simp; omega)) _ | with_reducible refine below_setRow ?_ (by first | omega | (simp; done) | (simp; omega)) _)) (hb1.mono (by first | omega | (simp; done) | (simp; omega)))
          clear hb1
          obtain ⟨x0, x1, x2, x3, xf⟩ := four X1
          obtain ⟨y0, y1, y2, y3, yf⟩ := four Y1
          obtain ⟨z0, z1, zf⟩ := two Z1
          go_wp2_with fail
          refine (rformed_any _ _ _ _ _).mono ?_
          rintro e w2 ⟨rfl, hb2⟩
          have hs2 := hb2.size
          have X2 := below_at hb2 (n := w.heap.size) (by omega) X1
          have Y2 := below_at hb2 (n := w.heap.size + 1) (by omega) Y1
          have Z2 := below_at hb2 (n := w.heap.size + 1 + 1) (by omega) Z1
          have B2 : Below w.heap.size w w2 := Below.trans B1 (hb2.mono (by omega))
          clear hb2 X1 Y1 Z1 x0 x1 x2 x3 xf y0 y1 y2 y3 yf z0 z1 zf
          obtain ⟨x0, x1, x2, x3, xf⟩ := four X2
          obtain ⟨y0, y1, y2, y3, yf⟩ := four Y2
          obtain ⟨z0, z1, zf⟩ := two Z2
          have u0 : w.heap.size < w2.heap.size := by omega
          have u1 : w.heap.size + 1 < w2.heap.size := by omega
          have u2 : w.heap.size + 1 + 1 < w2.heap.size := by omega
          go_wp2
          refine ret_row2 rfl (w.heap.size + 1 + 1) #[.int .u64 0, .int .u64 0] 64 _ rfl Try.underlying64 rfl infoR' rfl (by apply Exists.intro; refine ⟨?_, ?_⟩; (focus ((repeat (first | (with_reducible assumption) | (with_reducible exact alloc_at _ _) | ((with_reducible apply alloc_at'); (simp; done)) | (with_reducible apply alloc_at_lt) | (with_reducible apply heap_drew_at) | (with_reducible apply heap_drewN_at) | (with_reducible apply heap_setCell_same) | ((with_reducible apply heap_set_ne); (first | omega | (dsimp only; omega) | (simp; done) | (simp; omega))) | (with_reducible apply setRow_at) | ((with_reducible apply setRow_ne); (first | omega | (dsimp only; omega) | (simp; done) | (simp; omega))))))); simp) ⟨?_, (by repeat (first | with_reducible assumption | with_reducible exact Below.refl _ _ | with_reducible refine Below.drew ?_ | with_reducible refine below_drewN ?_ _ | with_reducible refine below_alloc ?_ _ | with_reducible refine Below.alloc ?_ (by first | omega | (simp; done) | (simp; omega)) _ | with_reducible refine Below.setCell ?_ (by first | omega | (simp; done) | (simp; omega)) _ | with_reducible refine below_setRow ?_ (by first | omega | (simp; done) | (simp; omega)) _))⟩
          rw [E.out]; rfl
      · obtain ⟨w0, w0'⟩ : 1 ≤ wt ∧ wt ≤ 1000 := by omega
        have E := hid (shareR_ok hx hy w0 w0')
        obtain ⟨⟨la, la'⟩, ⟨lb, lb'⟩, ⟨lc, lc'⟩, ⟨ld, ld'⟩⟩ := (okV_iff (a, b, c, d)).1 hx
        obtain ⟨⟨ma, ma'⟩, ⟨mb, mb'⟩, ⟨mc, mc'⟩, ⟨md, md'⟩⟩ := (okV_iff (a', b', c', d')).1 hy
        simp only at la la' lb lb' lc lc' ld ld' ma ma' mb mb' mc mc' md md'
        clear hw
        skip
        go_enter Try.func26, Try.ntmps26
        go_wp2_with fail
        refine (rformed_any _ _ _ _ _).mono ?_
        rintro e w1 ⟨rfl, hb1⟩
        have hs1 := hb1.size
        simp only [World.size_alloc] at hs1
        have X1 : w1.heap[w.heap.size]? = some (.cells #[.int .i64 a, .int .i64 b, .int .i64 c, .int .i64 d] 23 (0, 0)) := below_at hb1 (by first | omega | (simp; done) | (simp; omega)) (by (repeat (first | (with_reducible assumption) | (with_reducible exact alloc_at _ _) | ((with_reducible apply alloc_at'); (simp; done)) | (with_reducible apply alloc_at_lt) | (with_reducible apply heap_drew_at) | (with_reducible apply heap_drewN_at) | (with_reducible apply heap_setCell_same) | ((with_reducible apply heap_set_ne); (first | omega | (dsimp only; omega) | (simp; done) | (simp; omega))) | (with_reducible apply setRow_at) | ((with_reducible apply setRow_ne); (first | omega | (dsimp only; omega) | (simp; done) | (simp; omega))))))
        have Y1 : w1.heap[w.heap.size + 1]? = some (.cells #[.int .i64 a', .int .i64 b', .int .i64 c', .int .i64 d'] 23 (0, 0)) := below_at hb1 (by first | omega | (simp; done) | (simp; omega)) (by (repeat (first | (with_reducible assumption) | (with_reducible exact alloc_at _ _) | ((with_reducible apply alloc_at'); (simp; done)) | (with_reducible apply alloc_at_lt) | (with_reducible apply heap_drew_at) | (with_reducible apply heap_drewN_at) | (with_reducible apply heap_setCell_same) | ((with_reducible apply heap_set_ne); (first | omega | (dsimp only; omega) | (simp; done) | (simp; omega))) | (with_reducible apply setRow_at) | ((with_reducible apply setRow_ne); (first | omega | (dsimp only; omega) | (simp; done) | (simp; omega))))))
        have Z1 : w1.heap[w.heap.size + 1 + 1]? = some (.cells #[.int .u64 0, .int .u64 0] 64 (0, 0)) := below_at hb1 (by first | omega | (simp; done) | (simp; omega)) (by (repeat (first | (with_reducible assumption) | (with_reducible exact alloc_at _ _) | ((with_reducible apply alloc_at'); (simp; done)) | (with_reducible apply alloc_at_lt) | (with_reducible apply heap_drew_at) | (with_reducible apply heap_drewN_at) | (with_reducible apply heap_setCell_same) | ((with_reducible apply heap_set_ne); (first | omega | (dsimp only; omega) | (simp; done) | (simp; omega))) | (with_reducible apply setRow_at) | ((with_reducible apply setRow_ne); (first | omega | (dsimp only; omega) | (simp; done) | (simp; omega))))))
        have B1 : Below w.heap.size w w1 := Below.trans (by repeat (first | with_reducible assumption | with_reducible exact Below.refl _ _ | with_reducible refine Below.drew ?_ | with_reducible refine below_drewN ?_ _ | with_reducible refine below_alloc ?_ _ | with_reducible refine Below.alloc ?_ (by first | omega | (simp; done) | (simp; omega)) _ | with_reducible refine Below.setCell ?_ (by first | omega | (simp; done) | (simp; omega)) _ | with_reducible refine below_setRow ?_ (by first | omega | (simp; done) | (simp; omega)) _)) (hb1.mono (by first | omega | (simp; done) | (simp; omega)))
        clear hb1
        obtain ⟨x0, x1, x2, x3, xf⟩ := four X1
        obtain ⟨y0, y1, y2, y3, yf⟩ := four Y1
        obtain ⟨z0, z1, zf⟩ := two Z1
        go_wp2_with fail
        refine (rformed_any _ _ _ _ _).mono ?_
        rintro e w2 ⟨rfl, hb2⟩
        have hs2 := hb2.size
        have X2 := below_at hb2 (n := w.heap.size) (by omega) X1
        have Y2 := below_at hb2 (n := w.heap.size + 1) (by omega) Y1
        have Z2 := below_at hb2 (n := w.heap.size + 1 + 1) (by omega) Z1
        have B2 : Below w.heap.size w w2 := Below.trans B1 (hb2.mono (by omega))
        clear hb2 X1 Y1 Z1 x0 x1 x2 x3 xf y0 y1 y2 y3 yf z0 z1 zf
        obtain ⟨x0, x1, x2, x3, xf⟩ := four X2
        obtain ⟨y0, y1, y2, y3, yf⟩ := four Y2
        obtain ⟨z0, z1, zf⟩ := two Z2
        have u0 : w.heap.size < w2.heap.size := by omega
        have u1 : w.heap.size + 1 < w2.heap.size := by omega
        have u2 : w.heap.size + 1 + 1 < w2.heap.size := by omega
        go_wp2
        clear hx hy
        obtain ⟨wo, rfl⟩ : ∃ wo : World, wo = w2 := ⟨_, rfl⟩
        have hso : w.heap.size + 1 + 1 < wo.heap.size := by omega
        clear x0 x1 x2 x3 xf y0 y1 y2 y3 yf z0 z1 zf hs1 hs2 B1
        go_loopw [8, 9, 10] (fun p q i wr => ∃ (k : Nat) (n m : Int), p = .int .i64 n ∧ q = .int .i64 m ∧ i = .int .i64 k ∧ k ≤ 4 ∧ 0 ≤ n ∧ n ≤ 1099511627776 ∧ 1 ≤ m ∧ m ≤ 1099511627776 ∧ Hid (bk a b c d a' b' c' d' k = (n, m)) ∧
          Below w.heap.size w wr ∧ wr.heap[w.heap.size]? = some (.cells #[.int .i64 a, .int .i64 b, .int .i64 c, .int .i64 d] 23 (0, 0)) ∧ wr.heap[w.heap.size + 1]? = some (.cells #[.int .i64 a', .int .i64 b', .int .i64 c', .int .i64 d'] 23 (0, 0)) ∧ wr.heap[w.heap.size + 1 + 1]? = some (.cells #[.int .u64 0, .int .u64 0] 64 (0, 0)) ∧ w.heap.size + 1 + 1 < wr.heap.size) (fun _ _ i _ => 4 - (intOf i).toNat)
        case atStart => exact ⟨0, 0, 1, rfl, rfl, rfl, by omega, by omega, by omega, by omega, by omega, rfl, B2, X2, Y2, Z2, hso⟩
        case round =>
          clear X2 Y2 Z2 B2
          obtain ⟨k, n, m, rfl, rfl, rfl, hk, n0, n1, m0, m1, hbk, hB, hX, hY, hZ, hsz⟩ := hrel
          have hle1 : w.heap.size < wr.heap.size := by omega
          have hle2 : w.heap.size + 1 < wr.heap.size := by omega
          obtain ⟨x0, x1, x2, x3, xf⟩ := four hX
          obtain ⟨y0, y1, y2, y3, yf⟩ := four hY
          have HX := hid hX
          have HY := hid hY
          have HZ := hid hZ
          clear hX hY hZ
          obtain rfl | rfl | rfl | rfl | rfl : k = 0 ∨ k = 1 ∨ k = 2 ∨ k = 3 ∨ k = 4 := by omega
          · have hnext : bk a b c d a' b' c' d' 1 = stp (bk a b c d a' b' c' d' 0) a a' := rfl
            rw [hbk.out] at hnext
            have HN := hid hnext
            clear hnext hbk
            by_cases hz : a' = 0
            · have hq : (a' == 0) = true := by simp [hz]
              have HQ := hid hz
              clear hz
              go_wp2
              go_roundw
              case rel => exact ⟨1, n, m, rfl, rfl, by go_num, by omega, n0, n1, m0, m1, by unfold Hid; rw [HN.out, HQ.out, stp_zero], hB, HX.out, HY.out, HZ.out, hsz⟩
              case measure => simp [intOf]
            · have hq : (a' == 0) = false := by simpa using hz
              have HQ := hid hz
              clear hz
              have e0 : ∀ x : Lat wr.heap.size wr, x.w.cell? ⟨w.heap.size, 0, none⟩ = some (.int .i64 a) := fun x => by rw [x.cell _ _ hle1]; exact x0
              have e1 : ∀ x : Lat wr.heap.size wr, x.w.cell? ⟨w.heap.size + 1, 0, none⟩ = some (.int .i64 a') := fun x => by rw [x.cell _ _ hle2]; exact y0
              have hc : ∀ W, Calls Try.prog 41 #[.int .i64 a, .int .i64 m, .int .i64 n, .int .i64 a'] W fun e w' => e = .returned (.bool (decide (n * a' < a * m))) ∧ Below W.heap.size W w' := fun W => over_any a m n a' W (by omega) (by omega) (by omega) (by omega) (by omega) (by omega) (by omega) (by omega)
              by_cases hgt : n * a' < a * m
              all_goals
                have HG := hid hgt
                simp only [hgt, decide_true, decide_false] at hc
                have HC := hid hc
                clear hc hgt
                go_wp2
                refine wp_region_lat (by kernel_rfl) (by kernel_rfl) ?_
                repeat (go_big_quiet_step ((go_at_call 41; exact lat_of (Nat.le_refl _) (HC.out _))))
                refine wpQuiet_nil ?_
                rintro w4 ⟨x4, hx4⟩
                have hb4 := x4.h
                rw [← hx4] at hb4
                clear hx4 x4 e0 e1 HC
                have hs4 := hb4.size
                have X4 := below_at hb4 (n := w.heap.size) (by omega) HX.out
                have Y4 := below_at hb4 (n := w.heap.size + 1) (by omega) HY.out
                have Z4 := below_at hb4 (n := w.heap.size + 1 + 1) (by omega) HZ.out
                have B4 := Below.trans hB (hb4.mono (by omega))
                clear hb4 HX HY HZ x0 x1 x2 x3 xf y0 y1 y2 y3 yf
                obtain ⟨x0, x1, x2, x3, xf⟩ := four X4
                obtain ⟨y0, y1, y2, y3, yf⟩ := four Y4
                go_wp2
                go_roundw
              case rel => exact ⟨1, a, a', rfl, rfl, by go_num, by omega, by omega, by omega, by have := HQ.out; omega, by omega, by unfold Hid; rw [HN.out, stp_up HQ.out HG.out], B4, X4, Y4, Z4, by omega⟩
              case measure => simp [intOf]
              case rel => exact ⟨1, n, m, rfl, rfl, by go_num, by omega, n0, n1, m0, m1, by unfold Hid; rw [HN.out, stp_no (s := (n, m)) HQ.out (by have h := HG.out; simp only; omega)], B4, X4, Y4, Z4, by omega⟩
              case measure => simp [intOf]
          · have hnext : bk a b c d a' b' c' d' 2 = stp (bk a b c d a' b' c' d' 1) b b' := rfl
            rw [hbk.out] at hnext
            have HN := hid hnext
            clear hnext hbk
            by_cases hz : b' = 0
            · have hq : (b' == 0) = true := by simp [hz]
              have HQ := hid hz
              clear hz
              go_wp2
              go_roundw
              case rel => exact ⟨2, n, m, rfl, rfl, by go_num, by omega, n0, n1, m0, m1, by unfold Hid; rw [HN.out, HQ.out, stp_zero], hB, HX.out, HY.out, HZ.out, hsz⟩
              case measure => simp [intOf]
            · have hq : (b' == 0) = false := by simpa using hz
              have HQ := hid hz
              clear hz
              have e0 : ∀ x : Lat wr.heap.size wr, x.w.cell? ⟨w.heap.size, 1, none⟩ = some (.int .i64 b) := fun x => by rw [x.cell _ _ hle1]; exact x1
              have e1 : ∀ x : Lat wr.heap.size wr, x.w.cell? ⟨w.heap.size + 1, 1, none⟩ = some (.int .i64 b') := fun x => by rw [x.cell _ _ hle2]; exact y1
              have hc : ∀ W, Calls Try.prog 41 #[.int .i64 b, .int .i64 m, .int .i64 n, .int .i64 b'] W fun e w' => e = .returned (.bool (decide (n * b' < b * m))) ∧ Below W.heap.size W w' := fun W => over_any b m n b' W (by omega) (by omega) (by omega) (by omega) (by omega) (by omega) (by omega) (by omega)
              by_cases hgt : n * b' < b * m
              all_goals
                have HG := hid hgt
                simp only [hgt, decide_true, decide_false] at hc
                have HC := hid hc
                clear hc hgt
                go_wp2
                refine wp_region_lat (by kernel_rfl) (by kernel_rfl) ?_
                repeat (go_big_quiet_step ((go_at_call 41; exact lat_of (Nat.le_refl _) (HC.out _))))
                refine wpQuiet_nil ?_
                rintro w4 ⟨x4, hx4⟩
                have hb4 := x4.h
                rw [← hx4] at hb4
                clear hx4 x4 e0 e1 HC
                have hs4 := hb4.size
                have X4 := below_at hb4 (n := w.heap.size) (by omega) HX.out
                have Y4 := below_at hb4 (n := w.heap.size + 1) (by omega) HY.out
                have Z4 := below_at hb4 (n := w.heap.size + 1 + 1) (by omega) HZ.out
                have B4 := Below.trans hB (hb4.mono (by omega))
                clear hb4 HX HY HZ x0 x1 x2 x3 xf y0 y1 y2 y3 yf
                obtain ⟨x0, x1, x2, x3, xf⟩ := four X4
                obtain ⟨y0, y1, y2, y3, yf⟩ := four Y4
                go_wp2
                go_roundw
              case rel => exact ⟨2, b, b', rfl, rfl, by go_num, by omega, by omega, by omega, by have := HQ.out; omega, by omega, by unfold Hid; rw [HN.out, stp_up HQ.out HG.out], B4, X4, Y4, Z4, by omega⟩
              case measure => simp [intOf]
              case rel => exact ⟨2, n, m, rfl, rfl, by go_num, by omega, n0, n1, m0, m1, by unfold Hid; rw [HN.out, stp_no (s := (n, m)) HQ.out (by have h := HG.out; simp only; omega)], B4, X4, Y4, Z4, by omega⟩
              case measure => simp [intOf]
          · have hnext : bk a b c d a' b' c' d' 3 = stp (bk a b c d a' b' c' d' 2) c c' := rfl
            rw [hbk.out] at hnext
            have HN := hid hnext
            clear hnext hbk
            by_cases hz : c' = 0
            · have hq : (c' == 0) = true := by simp [hz]
              have HQ := hid hz
              clear hz
              go_wp2
              go_roundw
              case rel => exact ⟨3, n, m, rfl, rfl, by go_num, by omega, n0, n1, m0, m1, by unfold Hid; rw [HN.out, HQ.out, stp_zero], hB, HX.out, HY.out, HZ.out, hsz⟩
              case measure => simp [intOf]
            · have hq : (c' == 0) = false := by simpa using hz
              have HQ := hid hz
              clear hz
              have e0 : ∀ x : Lat wr.heap.size wr, x.w.cell? ⟨w.heap.size, 2, none⟩ = some (.int .i64 c) := fun x => by rw [x.cell _ _ hle1]; exact x2
              have e1 : ∀ x : Lat wr.heap.size wr, x.w.cell? ⟨w.heap.size + 1, 2, none⟩ = some (.int .i64 c') := fun x => by rw [x.cell _ _ hle2]; exact y2
              have hc : ∀ W, Calls Try.prog 41 #[.int .i64 c, .int .i64 m, .int .i64 n, .int .i64 c'] W fun e w' => e = .returned (.bool (decide (n * c' < c * m))) ∧ Below W.heap.size W w' := fun W => over_any c m n c' W (by omega) (by omega) (by omega) (by omega) (by omega) (by omega) (by omega) (by omega)
              by_cases hgt : n * c' < c * m
              all_goals
                have HG := hid hgt
                simp only [hgt, decide_true, decide_false] at hc
                have HC := hid hc
                clear hc hgt
                go_wp2
                refine wp_region_lat (by kernel_rfl) (by kernel_rfl) ?_
                repeat (go_big_quiet_step ((go_at_call 41; exact lat_of (Nat.le_refl _) (HC.out _))))
                refine wpQuiet_nil ?_
                rintro w4 ⟨x4, hx4⟩
                have hb4 := x4.h
                rw [← hx4] at hb4
                clear hx4 x4 e0 e1 HC
                have hs4 := hb4.size
                have X4 := below_at hb4 (n := w.heap.size) (by omega) HX.out
                have Y4 := below_at hb4 (n := w.heap.size + 1) (by omega) HY.out
                have Z4 := below_at hb4 (n := w.heap.size + 1 + 1) (by omega) HZ.out
                have B4 := Below.trans hB (hb4.mono (by omega))
                clear hb4 HX HY HZ x0 x1 x2 x3 xf y0 y1 y2 y3 yf
                obtain ⟨x0, x1, x2, x3, xf⟩ := four X4
                obtain ⟨y0, y1, y2, y3, yf⟩ := four Y4
                go_wp2
                go_roundw
              case rel => exact ⟨3, c, c', rfl, rfl, by go_num, by omega, by omega, by omega, by have := HQ.out; omega, by omega, by unfold Hid; rw [HN.out, stp_up HQ.out HG.out], B4, X4, Y4, Z4, by omega⟩
              case measure => simp [intOf]
              case rel => exact ⟨3, n, m, rfl, rfl, by go_num, by omega, n0, n1, m0, m1, by unfold Hid; rw [HN.out, stp_no (s := (n, m)) HQ.out (by have h := HG.out; simp only; omega)], B4, X4, Y4, Z4, by omega⟩
              case measure => simp [intOf]
          · have hnext : bk a b c d a' b' c' d' 4 = stp (bk a b c d a' b' c' d' 3) d d' := rfl
            rw [hbk.out] at hnext
            have HN := hid hnext
            clear hnext hbk
            by_cases hz : d' = 0
            · have hq : (d' == 0) = true := by simp [hz]
              have HQ := hid hz
              clear hz
              go_wp2
              go_roundw
              case rel => exact ⟨4, n, m, rfl, rfl, by go_num, by omega, n0, n1, m0, m1, by unfold Hid; rw [HN.out, HQ.out, stp_zero], hB, HX.out, HY.out, HZ.out, hsz⟩
              case measure => simp [intOf]
            · have hq : (d' == 0) = false := by simpa using hz
              have HQ := hid hz
              clear hz
              have e0 : ∀ x : Lat wr.heap.size wr, x.w.cell? ⟨w.heap.size, 3, none⟩ = some (.int .i64 d) := fun x => by rw [x.cell _ _ hle1]; exact x3
              have e1 : ∀ x : Lat wr.heap.size wr, x.w.cell? ⟨w.heap.size + 1, 3, none⟩ = some (.int .i64 d') := fun x => by rw [x.cell _ _ hle2]; exact y3
              have hc : ∀ W, Calls Try.prog 41 #[.int .i64 d, .int .i64 m, .int .i64 n, .int .i64 d'] W fun e w' => e = .returned (.bool (decide (n * d' < d * m))) ∧ Below W.heap.size W w' := fun W => over_any d m n d' W (by omega) (by omega) (by omega) (by omega) (by omega) (by omega) (by omega) (by omega)
              by_cases hgt : n * d' < d * m
              all_goals
                have HG := hid hgt
                simp only [hgt, decide_true, decide_false] at hc
                have HC := hid hc
                clear hc hgt
                go_wp2
                refine wp_region_lat (by kernel_rfl) (by kernel_rfl) ?_
                repeat (go_big_quiet_step ((go_at_call 41; exact lat_of (Nat.le_refl _) (HC.out _))))
                refine wpQuiet_nil ?_
                rintro w4 ⟨x4, hx4⟩
                have hb4 := x4.h
                rw [← hx4] at hb4
                clear hx4 x4 e0 e1 HC
                have hs4 := hb4.size
                have X4 := below_at hb4 (n := w.heap.size) (by omega) HX.out
                have Y4 := below_at hb4 (n := w.heap.size + 1) (by omega) HY.out
                have Z4 := below_at hb4 (n := w.heap.size + 1 + 1) (by omega) HZ.out
                have B4 := Below.trans hB (hb4.mono (by omega))
                clear hb4 HX HY HZ x0 x1 x2 x3 xf y0 y1 y2 y3 yf
                obtain ⟨x0, x1, x2, x3, xf⟩ := four X4
                obtain ⟨y0, y1, y2, y3, yf⟩ := four Y4
                go_wp2
                go_roundw
              case rel => exact ⟨4, d, d', rfl, rfl, by go_num, by omega, by omega, by omega, by have := HQ.out; omega, by omega, by unfold Hid; rw [HN.out, stp_up HQ.out HG.out], B4, X4, Y4, Z4, by omega⟩
              case measure => simp [intOf]
              case rel => exact ⟨4, n, m, rfl, rfl, by go_num, by omega, n0, n1, m0, m1, by unfold Hid; rw [HN.out, stp_no (s := (n, m)) HQ.out (by have h := HG.out; simp only; omega)], B4, X4, Y4, Z4, by omega⟩
              case measure => simp [intOf]
          · have hbest : best a b c d a' b' c' d' = (n, m) := hbk.out
            have HB := hid hbest
            clear hbest hbk
            rw [HB.out] at E
            have p1 := prod_le (x := m) (y := wt) (m := 1099511627776) (n := 1000) (by omega) (by omega) (by omega) (by omega)
            have p2 := p1.1
            have p3 := p1.2
            have hc : ∀ W, Calls Try.prog 42 #[.int .u64 n, .int .u64 (m * wt)] W fun e w' => e = .returned (.tuple #[.agg #[.int .u64 (newR n (m * wt)).1.1, .int .u64 (newR n (m * wt)).1.2], .int .i64 (newR n (m * wt)).2]) ∧ Below W.heap.size W w' := fun W => rnew_any n (m * wt) W (by omega) (by omega) (by omega) (by omega)
            have HC := hid hc
            clear hc p1
            generalize newR n (m * wt) = r at *
            obtain ⟨⟨r0, r1⟩, r2⟩ := r
            go_wp2_with fail
            refine (HC.out _).mono ?_
            rintro e w4 ⟨rfl, hb4⟩
            have hs4 := hb4.size
            have Z4 := below_at hb4 (n := w.heap.size + 1 + 1) (by omega) HZ.out
            have B4 := Below.trans hB (hb4.mono (by omega))
            clear hb4
            obtain ⟨z0, z1, zf⟩ := two Z4
            go_wp2
            refine ret_row2 rfl (w.heap.size + 1 + 1) #[.int .u64 r0, .int .u64 r1] 64 _ rfl Try.underlying64 rfl infoR' rfl (by apply Exists.intro; refine ⟨?_, ?_⟩; (focus ((repeat (first | (with_reducible assumption) | (with_reducible exact alloc_at _ _) | ((with_reducible apply alloc_at'); (simp; done)) | (with_reducible apply alloc_at_lt) | (with_reducible apply heap_drew_at) | (with_reducible apply heap_drewN_at) | (with_reducible apply heap_setCell_same) | ((with_reducible apply heap_set_ne); (first | omega | (dsimp only; omega) | (simp; done) | (simp; omega))) | (with_reducible apply setRow_at) | ((with_reducible apply setRow_ne); (first | omega | (dsimp only; omega) | (simp; done) | (simp; omega))))))); simp) ⟨?_, (by repeat (first | with_reducible assumption | with_reducible exact Below.refl _ _ | with_reducible refine Below.drew ?_ | with_reducible refine below_drewN ?_ _ | with_reducible refine below_alloc ?_ _ | with_reducible refine Below.alloc ?_ (by first | omega | (simp; done) | (simp; omega)) _ | with_reducible refine Below.setCell ?_ (by first | omega | (simp; done) | (simp; omega)) _ | with_reducible refine below_setRow ?_ (by first | omega | (simp; done) | (simp; omega)) _))⟩
            rw [E.out]; rfl
    · have hy' : formedB a' b' c' d' = false := by simpa using hy
      have E := hid (shareR_form (wt := wt) (show (formedB a b c d && formedB a' b' c' d') = false by rw [hx, hy']; rfl))
      clear hy
      skip
      go_enter Try.func26, Try.ntmps26
      go_wp2_with fail
      refine (rformed_any _ _ _ _ _).mono ?_
      rintro e w1 ⟨rfl, hb1⟩
      have hs1 := hb1.size
      simp only [World.size_alloc] at hs1
      have X1 : w1.heap[w.heap.size]? = some (.cells #[.int .i64 a, .int .i64 b, .int .i64 c, .int .i64 d] 23 (0, 0)) := below_at hb1 (by first | omega | (simp; done) | (simp; omega)) (by (repeat (first | (with_reducible assumption) | (with_reducible exact alloc_at _ _) | ((with_reducible apply alloc_at'); (simp; done)) | (with_reducible apply alloc_at_lt) | (with_reducible apply heap_drew_at) | (with_reducible apply heap_drewN_at) | (with_reducible apply heap_setCell_same) | ((with_reducible apply heap_set_ne); (first | omega | (dsimp only; omega) | (simp; done) | (simp; omega))) | (with_reducible apply setRow_at) | ((with_reducible apply setRow_ne); (first | omega | (dsimp only; omega) | (simp; done) | (simp; omega))))))
      have Y1 : w1.heap[w.heap.size + 1]? = some (.cells #[.int .i64 a', .int .i64 b', .int .i64 c', .int .i64 d'] 23 (0, 0)) := below_at hb1 (by first | omega | (simp; done) | (simp; omega)) (by (repeat (first | (with_reducible assumption) | (with_reducible exact alloc_at _ _) | ((with_reducible apply alloc_at'); (simp; done)) | (with_reducible apply alloc_at_lt) | (with_reducible apply heap_drew_at) | (with_reducible apply heap_drewN_at) | (with_reducible apply heap_setCell_same) | ((with_reducible apply heap_set_ne); (first | omega | (dsimp only; omega) | (simp; done) | (simp; omega))) | (with_reducible apply setRow_at) | ((with_reducible apply setRow_ne); (first | omega | (dsimp only; omega) | (simp; done) | (simp; omega))))))
      have Z1 : w1.heap[w.heap.size + 1 + 1]? = some (.cells #[.int .u64 0, .int .u64 0] 64 (0, 0)) := below_at hb1 (by first | omega | (simp; done) | (simp; omega)) (by (repeat (first | (with_reducible assumption) | (with_reducible exact alloc_at _ _) | ((with_reducible apply alloc_at'); (simp; done)) | (with_reducible apply alloc_at_lt) | (with_reducible apply heap_drew_at) | (with_reducible apply heap_drewN_at) | (with_reducible apply heap_setCell_same) | ((with_reducible apply heap_set_ne); (first | omega | (dsimp only; omega) | (simp; done) | (simp; omega))) | (with_reducible apply setRow_at) | ((with_reducible apply setRow_ne); (first | omega | (dsimp only; omega) | (simp; done) | (simp; omega))))))
      have B1 : Below w.heap.size w w1 := Below.trans (by repeat (first | with_reducible assumption | with_reducible exact Below.refl _ _ | with_reducible refine Below.drew ?_ | with_reducible refine below_drewN ?_ _ | with_reducible refine below_alloc ?_ _ | with_reducible refine Below.alloc ?_ (by first | omega | (simp; done) | (simp; omega)) _ | with_reducible refine Below.setCell ?_ (by first | omega | (simp; done) | (simp; omega)) _ | with_reducible refine below_setRow ?_ (by first | omega | (simp; done) | (simp; omega)) _)) (hb1.mono (by first | omega | (simp; done) | (simp; omega)))
      clear hb1
      obtain ⟨x0, x1, x2, x3, xf⟩ := four X1
      obtain ⟨y0, y1, y2, y3, yf⟩ := four Y1
      obtain ⟨z0, z1, zf⟩ := two Z1
      go_wp2_with fail
      refine (rformed_any _ _ _ _ _).mono ?_
      rintro e w2 ⟨rfl, hb2⟩
      have hs2 := hb2.size
      have X2 := below_at hb2 (n := w.heap.size) (by omega) X1
      have Y2 := below_at hb2 (n := w.heap.size + 1) (by omega) Y1
      have Z2 := below_at hb2 (n := w.heap.size + 1 + 1) (by omega) Z1
      have B2 : Below w.heap.size w w2 := Below.trans B1 (hb2.mono (by omega))
      clear hb2 X1 Y1 Z1 x0 x1 x2 x3 xf y0 y1 y2 y3 yf z0 z1 zf
      obtain ⟨x0, x1, x2, x3, xf⟩ := four X2
      obtain ⟨y0, y1, y2, y3, yf⟩ := four Y2
      obtain ⟨z0, z1, zf⟩ := two Z2
      have u0 : w.heap.size < w2.heap.size := by omega
      have u1 : w.heap.size + 1 < w2.heap.size := by omega
      have u2 : w.heap.size + 1 + 1 < w2.heap.size := by omega
      go_wp2
      refine ret_row2 rfl (w.heap.size + 1 + 1) #[.int .u64 0, .int .u64 0] 64 _ rfl Try.underlying64 rfl infoR' rfl (by apply Exists.intro; refine ⟨?_, ?_⟩; (focus ((repeat (first | (with_reducible assumption) | (with_reducible exact alloc_at _ _) | ((with_reducible apply alloc_at'); (simp; done)) | (with_reducible apply alloc_at_lt) | (with_reducible apply heap_drew_at) | (with_reducible apply heap_drewN_at) | (with_reducible apply heap_setCell_same) | ((with_reducible apply heap_set_ne); (first | omega | (dsimp only; omega) | (simp; done) | (simp; omega))) | (with_reducible apply setRow_at) | ((with_reducible apply setRow_ne); (first | omega | (dsimp only; omega) | (simp; done) | (simp; omega))))))); simp) ⟨?_, (by repeat (first | with_reducible assumption | with_reducible exact Below.refl _ _ | with_reducible refine Below.drew ?_ | with_reducible refine below_drewN ?_ _ | with_reducible refine below_alloc ?_ _ | with_reducible refine Below.alloc ?_ (by first | omega | (simp; done) | (simp; omega)) _ | with_reducible refine Below.setCell ?_ (by first | omega | (simp; done) | (simp; omega)) _ | with_reducible refine below_setRow ?_ (by first | omega | (simp; done) | (simp; omega)) _))⟩
      rw [E.out]; rfl
  · have hx' : formedB a b c d = false := by simpa using hx
    have E := hid (shareR_form (wt := wt) (show (formedB a b c d && formedB a' b' c' d') = false by rw [hx']; rfl))
    clear hx
    skip
    go_enter Try.func26, Try.ntmps26
    go_wp2_with fail
    refine (rformed_any _ _ _ _ _).mono ?_
    rintro e w1 ⟨rfl, hb1⟩
    have hs1 := hb1.size
    simp only [World.size_alloc] at hs1
    have X1 : w1.heap[w.heap.size]? = some (.cells #[.int .i64 a, .int .i64 b, .int .i64 c, .int .i64 d] 23 (0, 0)) := below_at hb1 (by first | omega | (simp; done) | (simp; omega)) (by (repeat (first | (with_reducible assumption) | (with_reducible exact alloc_at _ _) | ((with_reducible apply alloc_at'); (simp; done)) | (with_reducible apply alloc_at_lt) | (with_reducible apply heap_drew_at) | (with_reducible apply heap_drewN_at) | (with_reducible apply heap_setCell_same) | ((with_reducible apply heap_set_ne); (first | omega | (dsimp only; omega) | (simp; done) | (simp; omega))) | (with_reducible apply setRow_at) | ((with_reducible apply setRow_ne); (first | omega | (dsimp only; omega) | (simp; done) | (simp; omega))))))
    have Y1 : w1.heap[w.heap.size + 1]? = some (.cells #[.int .i64 a', .int .i64 b', .int .i64 c', .int .i64 d'] 23 (0, 0)) := below_at hb1 (by first | omega | (simp; done) | (simp; omega)) (by (repeat (first | (with_reducible assumption) | (with_reducible exact alloc_at _ _) | ((with_reducible apply alloc_at'); (simp; done)) | (with_reducible apply alloc_at_lt) | (with_reducible apply heap_drew_at) | (with_reducible apply heap_drewN_at) | (with_reducible apply heap_setCell_same) | ((with_reducible apply heap_set_ne); (first | omega | (dsimp only; omega) | (simp; done) | (simp; omega))) | (with_reducible apply setRow_at) | ((with_reducible apply setRow_ne); (first | omega | (dsimp only; omega) | (simp; done) | (simp; omega))))))
    have Z1 : w1.heap[w.heap.size + 1 + 1]? = some (.cells #[.int .u64 0, .int .u64 0] 64 (0, 0)) := below_at hb1 (by first | omega | (simp; done) | (simp; omega)) (by (repeat (first | (with_reducible assumption) | (with_reducible exact alloc_at _ _) | ((with_reducible apply alloc_at'); (simp; done)) | (with_reducible apply alloc_at_lt) | (with_reducible apply heap_drew_at) | (with_reducible apply heap_drewN_at) | (with_reducible apply heap_setCell_same) | ((with_reducible apply heap_set_ne); (first | omega | (dsimp only; omega) | (simp; done) | (simp; omega))) | (with_reducible apply setRow_at) | ((with_reducible apply setRow_ne); (first | omega | (dsimp only; omega) | (simp; done) | (simp; omega))))))
    have B1 : Below w.heap.size w w1 := Below.trans (by repeat (first | with_reducible assumption | with_reducible exact Below.refl _ _ | with_reducible refine Below.drew ?_ | with_reducible refine below_drewN ?_ _ | with_reducible refine below_alloc ?_ _ | with_reducible refine Below.alloc ?_ (by first | omega | (simp; done) | (simp; omega)) _ | with_reducible refine Below.setCell ?_ (by first | omega | (simp; done) | (simp; omega)) _ | with_reducible refine below_setRow ?_ (by first | omega | (simp; done) | (simp; omega)) _)) (hb1.mono (by first | omega | (simp; done) | (simp; omega)))
    clear hb1
    obtain ⟨x0, x1, x2, x3, xf⟩ := four X1
    obtain ⟨y0, y1, y2, y3, yf⟩ := four Y1
    obtain ⟨z0, z1, zf⟩ := two Z1
    go_wp2
    refine ret_row2 rfl (w.heap.size + 1 + 1) #[.int .u64 0, .int .u64 0] 64 _ rfl Try.underlying64 rfl infoR' rfl (by apply Exists.intro; refine ⟨?_, ?_⟩; (focus ((repeat (first | (with_reducible assumption) | (with_reducible exact alloc_at _ _) | ((with_reducible apply alloc_at'); (simp; done)) | (with_reducible apply alloc_at_lt) | (with_reducible apply heap_drew_at) | (with_reducible apply heap_drewN_at) | (with_reducible apply heap_setCell_same) | ((with_reducible apply heap_set_ne); (first | omega | (dsimp only; omega) | (simp; done) | (simp; omega))) | (with_reducible apply setRow_at) | ((with_reducible apply setRow_ne); (first | omega | (dsimp only; omega) | (simp; done) | (simp; omega))))))); simp) ⟨?_, (by repeat (first | with_reducible assumption | with_reducible exact Below.refl _ _ | with_reducible refine Below.drew ?_ | with_reducible refine below_drewN ?_ _ | with_reducible refine below_alloc ?_ _ | with_reducible refine Below.alloc ?_ (by first | omega | (simp; done) | (simp; omega)) _ | with_reducible refine Below.setCell ?_ (by first | omega | (simp; done) | (simp; omega)) _ | with_reducible refine below_setRow ?_ (by first | omega | (simp; done) | (simp; omega)) _))⟩
    rw [E.out]; rfl
end Go.Proofs.Yteccpjijlkjneaa
