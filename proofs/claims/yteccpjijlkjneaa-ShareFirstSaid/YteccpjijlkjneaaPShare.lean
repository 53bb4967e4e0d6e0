/- The contract of the program's Share. No condition on the vectors and the weight. -/
import Derived.Test.YteccpjijlkjneaaRShare
namespace Go.Proofs.Yteccpjijlkjneaa
open Go.RowKit
theorem newR_init {wt : Int} (h : 1 ≤ wt) : newR 0 (1 * wt) = ((0, 1), 0) := by
  rw [Int.one_mul, newR_pos (by omega)]
  have e : gc 0 wt = wt := by
    obtain ⟨x, rfl⟩ := Int.eq_ofNat_of_zero_le (show 0 ≤ wt by omega)
    unfold gc; simp
  rw [e, Int.zero_ediv, Int.ediv_self (by omega)]
theorem newR_bd {n d : Int} (hn : 0 ≤ n) (hd : 0 < d) : 0 ≤ (newR n d).1.1 ∧ (newR n d).1.1 ≤ n ∧ 0 ≤ (newR n d).1.2 ∧ (newR n d).1.2 ≤ d ∧ (newR n d).2 = 0 := by
  rw [newR_pos (by omega)]
  have h := gc_pos (a := n) hd
  have h1 := div_le hn h
  have h2 := div_le (a := d) (by omega) h
  exact ⟨h1.1, h1.2, h2.1, h2.2, rfl⟩
set_option maxHeartbeats 4000000 in
theorem share_any (a b c d a' b' c' d' wt : Int) (w : World) :
    Calls Try.prog 17 #[.agg #[.int .i64 a, .int .i64 b, .int .i64 c, .int .i64 d], .agg #[.int .i64 a', .int .i64 b', .int .i64 c', .int .i64 d'], .int .i64 wt] w fun e w' => e = .returned (.tuple #[.agg #[.int .u64 (shareR a b c d a' b' c' d' wt).1.1, .int .u64 (shareR a b c d a' b' c' d' wt).1.2], .int .i64 (shareR a b c d a' b' c' d' wt).2]) ∧ Below w.heap.size w w' := by
  by_cases hx : formedB a b c d = true
  · by_cases hy : formedB a' b' c' d' = true
    · by_cases hw : wt < 1 ∨ 1000 < wt
      · have E := hid (shareR_range hx hy hw)
        have hw1 : decide (wt < 1) = true ∨ (decide (wt < 1) = false ∧ decide (1000 < wt) = true) := by
          by_cases h : wt < 1
          · exact .inl (by simpa using h)
          · exact .inr ⟨by simpa using h, by simpa using hw.resolve_left h⟩
        clear hw
        rcases hw1 with h1 | ⟨h1, h2⟩
        all_goals
          skip
          go_enter Try.func17, Try.ntmps17
          go_wp2_with fail
          refine (formed_any _ _ _ _ _).mono ?_
          rintro e w1 ⟨rfl, hb1⟩
          have hs1 := hb1.size
          simp only [World.size_alloc] at hs1
          have X1 : w1.heap[w.heap.size]? = some (.cells #[.int .i64 a, .int .i64 b, .int .i64 c, .int .i64 d] 23 (0, 0)) := below_at hb1 (by first | omega | (simp; done) | (simp; omega)) (by (repeat (first | (with_reducible assumption) | (with_reducible exact alloc_at _ _) | ((with_reducible apply alloc_at'); (simp; done)) | (with_reducible apply alloc_at_lt) | (with_reducible apply heap_drew_at) | (with_reducible apply heap_drewN_at) | (with_reducible apply heap_setCell_same) | ((with_reducible apply heap_set_ne); (first | omega | (dsimp only; omega) | (simp; done) | (simp; omega))) | (with_reducible apply setRow_at) | ((with_reducible apply setRow_ne); (first | omega | (dsimp only; omega) | (simp; done) | (simp; omega))))))
          have Y1 : w1.heap[w.heap.size + 1]? = some (.cells #[.int .i64 a', .int .i64 b', .int .i64 c', .int .i64 d'] 23 (0, 0)) := below_at hb1 (by first | omega | (simp; done) | (simp; omega)) (by (repeat (first | (with_reducible assumption) | (with_reducible exact alloc_at _ _) | ((with_reducible apply alloc_at'); (simp; done)) | (with_reducible apply alloc_at_lt) | (with_reducible apply heap_drew_at) | (with_reducible apply heap_drewN_at) | (with_reducible apply heap_setCell_same) | ((with_reducible apply heap_set_ne); (first | omega | (dsimp only; omega) | (simp; done) | (simp; omega))) | (with_reducible apply setRow_at) | ((with_reducible apply setRow_ne); (first | omega | (dsimp only; omega) | (simp; done) | (simp; omega))))))
          have Z1 : w1.heap[w.heap.size + 1 + 1]? = some (.cells #[.int .u64 0, .int .u64 0] 48 (0, 0)) := below_at hb1 (by first | omega | (simp; done) | (simp; omega)) (by (repeat (first | (with_reducible assumption) | (with_reducible exact alloc_at _ _) | ((with_reducible apply alloc_at'); (simp; done)) | (with_reducible apply alloc_at_lt) | (with_reducible apply heap_drew_at) | (with_reducible apply heap_drewN_at) | (with_reducible apply heap_setCell_same) | ((with_reducible apply heap_set_ne); (first | omega | (dsimp only; omega) | (simp; done) | (simp; omega))) | (with_reducible apply setRow_at) | ((with_reducible apply setRow_ne); (first | omega | (dsimp only; omega) | (simp; done) | (simp; omega))))))
          have B1 : Below w.heap.size w w1 := Below.trans (by repeat (first | with_reducible assumption | with_reducible exact Below.refl _ _ | with_reducible refine Below.drew ?_ | with_reducible refine below_drewN ?_ _ | with_reducible refine below_alloc ?_ _ | with_reducible refine Below.alloc ?_ (by first | omega | (simp; done) | (simp; omega)) _ | with_reducible refine Below.setCell ?_ (by first | omega | (simp; done) | (simp; omega)) _ | with_reducible refine below_setRow ?_ (by first | omega | (simp; done) | (simp; omega)) _)) (hb1.mono (by first | omega | (simp; done) | (simp; omega)))
          clear hb1
          obtain ⟨x0, x1, x2, x3, xf⟩ := four X1
          obtain ⟨y0, y1, y2, y3, yf⟩ := four Y1
          obtain ⟨z0, z1, zf⟩ := two Z1
          go_wp2_with fail
          refine (formed_any _ _ _ _ _).mono ?_
          rintro e w2 ⟨rfl, hb2⟩
          have hs2 := hb2.size
          have X2 := below_at hb2 (n := w.heap.size) (by omega) X1
          have Y2 := below_at hb2 (n := w.heap.size + 1) (by omega) Y1
          have Z2 := below_at hb2 (n := w.heap.size + 1 + 1) (by omega) Z1
          have B2 : Below w.heap.size w w2 := Below.trans B1 (hb2.mono (by omega))
          clear hb2 X1 Y1 Z1 x0 x1 x2 x3 xf y0 y1 y2 y3 yf z0 z1 zf
          obtain ⟨x0, x1, x2, x3, xf⟩ := four X2
          obtain ⟨y0, y1, y2, y3, yf⟩ := four Y2
          obtain ⟨z0, z1, zf⟩ := two Z2
          have u0 : w.heap.size < w2.heap.size := by omega
          have u1 : w.heap.size + 1 < w2.heap.size := by omega
          have u2 : w.heap.size + 1 + 1 < w2.heap.size := by omega
          go_wp2
          refine ret_row2 rfl (w.heap.size + 1 + 1) #[.int .u64 0, .int .u64 0] 48 _ rfl Try.underlying48 rfl infoR rfl (by apply Exists.intro; refine ⟨?_, ?_⟩; (focus ((repeat (first | (with_reducible assumption) | (with_reducible exact alloc_at _ _) | ((with_reducible apply alloc_at'); (simp; done)) | (with_reducible apply alloc_at_lt) | (with_reducible apply heap_drew_at) | (with_reducible apply heap_drewN_at) | (with_reducible apply heap_setCell_same) | ((with_reducible apply heap_set_ne); (first | omega | (dsimp only; omega) | (simp; done) | (simp; omega))) | (with_reducible apply setRow_at) | ((with_reducible apply setRow_ne); (first | omega | (dsimp only; omega) | (simp; done) | (simp; omega))))))); simp) ⟨?_, (by repeat (first | with_reducible assumption | with_reducible exact Below.refl _ _ | with_reducible refine Below.drew ?_ | with_reducible refine below_drewN ?_ _ | with_reducible refine below_alloc ?_ _ | with_reducible refine Below.alloc ?_ (by first | omega | (simp; done) | (simp; omega)) _ | with_reducible refine Below.setCell ?_ (by first | omega | (simp; done) | (simp; omega)) _ | with_reducible refine below_setRow ?_ (by first | omega | (simp; done) | (simp; omega)) _))⟩
          rw [E.out]; rfl
      · obtain ⟨w0, w0'⟩ : 1 ≤ wt ∧ wt ≤ 1000 := by omega
        have E := hid (shareR_ok hx hy w0 w0')
        obtain ⟨⟨la, la'⟩, ⟨lb, lb'⟩, ⟨lc, lc'⟩, ⟨ld, ld'⟩⟩ := (okV_iff (a, b, c, d)).1 hx
        obtain ⟨⟨ma, ma'⟩, ⟨mb, mb'⟩, ⟨mc, mc'⟩, ⟨md, md'⟩⟩ := (okV_iff (a', b', c', d')).1 hy
        simp only at la la' lb lb' lc lc' ld ld' ma ma' mb mb' mc mc' md md'
        clear hw
        skip
        go_enter Try.func17, Try.ntmps17
        go_wp2_with fail
        refine (formed_any _ _ _ _ _).mono ?_
        rintro e w1 ⟨rfl, hb1⟩
        have hs1 := hb1.size
        simp only [World.size_alloc] at hs1
        have X1 : w1.heap[w.heap.size]? = some (.cells #[.int .i64 a, .int .i64 b, .int .i64 c, .int .i64 d] 23 (0, 0)) := below_at hb1 (by first | omega | (simp; done) | (simp; omega)) (by (repeat (first | (with_reducible assumption) | (with_reducible exact alloc_at _ _) | ((with_reducible apply alloc_at'); (simp; done)) | (with_reducible apply alloc_at_lt) | (with_reducible apply heap_drew_at) | (with_reducible apply heap_drewN_at) | (with_reducible apply heap_setCell_same) | ((with_reducible apply heap_set_ne); (first | omega | (dsimp only; omega) | (simp; done) | (simp; omega))) | (with_reducible apply setRow_at) | ((with_reducible apply setRow_ne); (first | omega | (dsimp only; omega) | (simp; done) | (simp; omega))))))
        have Y1 : w1.heap[w.heap.size + 1]? = some (.cells #[.int .i64 a', .int .i64 b', .int .i64 c', .int .i64 d'] 23 (0, 0)) := below_at hb1 (by first | omega | (simp; done) | (simp; omega)) (by (repeat (first | (with_reducible assumption) | (with_reducible exact alloc_at _ _) | ((with_reducible apply alloc_at'); (simp; done)) | (with_reducible apply alloc_at_lt) | (with_reducible apply heap_drew_at) | (with_reducible apply heap_drewN_at) | (with_reducible apply heap_setCell_same) | ((with_reducible apply heap_set_ne); (first | omega | (dsimp only; omega) | (simp; done) | (simp; omega))) | (with_reducible apply setRow_at) | ((with_reducible apply setRow_ne); (first | omega | (dsimp only; omega) | (simp; done) | (simp; omega))))))
        have Z1 : w1.heap[w.heap.size + 1 + 1]? = some (.cells #[.int .u64 0, .int .u64 0] 48 (0, 0)) := below_at hb1 (by first | omega | (simp; done) | (simp; omega)) (by (repeat (first | (with_reducible assumption) | (with_reducible exact alloc_at _ _) | ((with_reducible apply alloc_at'); (simp; done)) | (with_reducible apply alloc_at_lt) | (with_reducible apply heap_drew_at) | (with_reducible apply heap_drewN_at) | (with_reducible apply heap_setCell_same) | ((with_reducible apply heap_set_ne); (first | omega | (dsimp only; omega) | (simp; done) | (simp; omega))) | (with_reducible apply setRow_at) | ((with_reducible apply setRow_ne); (first | omega | (dsimp only; omega) | (simp; done) | (simp; omega))))))
        have B1 : Below w.heap.size w w1 := Below.trans (by repeat (first | with_reducible assumption | with_reducible exact Below.refl _ _ | with_reducible refine Below.drew ?_ | with_reducible refine below_drewN ?_ _ | with_reducible refine below_alloc ?_ _ | with_reducible refine Below.alloc ?_ (by first | omega | (simp; done) | (simp; omega)) _ | with_reducible refine Below.setCell ?_ (by first | omega | (simp; done) | (simp; omega)) _ | with_reducible refine below_setRow ?_ (by first | omega | (simp; done) | (simp; omega)) _)) (hb1.mono (by first | omega | (simp; done) | (simp; omega)))
        clear hb1
        obtain ⟨x0, x1, x2, x3, xf⟩ := four X1
        obtain ⟨y0, y1, y2, y3, yf⟩ := four Y1
        obtain ⟨z0, z1, zf⟩ := two Z1
        go_wp2_with fail
        refine (formed_any _ _ _ _ _).mono ?_
        rintro e w2 ⟨rfl, hb2⟩
        have hs2 := hb2.size
        have X2 := below_at hb2 (n := w.heap.size) (by omega) X1
        have Y2 := below_at hb2 (n := w.heap.size + 1) (by omega) Y1
        have Z2 := below_at hb2 (n := w.heap.size + 1 + 1) (by omega) Z1
        have B2 : Below w.heap.size w w2 := Below.trans B1 (hb2.mono (by omega))
        clear hb2 X1 Y1 Z1 x0 x1 x2 x3 xf y0 y1 y2 y3 yf z0 z1 zf
        obtain ⟨x0, x1, x2, x3, xf⟩ := four X2
        obtain ⟨y0, y1, y2, y3, yf⟩ := four Y2
        obtain ⟨z0, z1, zf⟩ := two Z2
        have u0 : w.heap.size < w2.heap.size := by omega
        have u1 : w.heap.size + 1 < w2.heap.size := by omega
        have u2 : w.heap.size + 1 + 1 < w2.heap.size := by omega
        go_wp2
        clear hx hy
        obtain ⟨wo, rfl⟩ : ∃ wo : World, wo = w2 := ⟨_, rfl⟩
        have hso : w.heap.size + 1 + 1 < wo.heap.size := by omega
        clear x0 x1 x2 x3 xf y0 y1 y2 y3 yf z0 z1 zf hs1 hs2 B1
        go_loopw [33] (fun i wr => ∃ (k : Nat) (n m g0 g1 : Int), i = .int .i64 k ∧ k ≤ 4 ∧ 0 ≤ n ∧ n ≤ 1099511627776 ∧ 1 ≤ m ∧ m ≤ 1099511627776 ∧ Hid (bk a b c d a' b' c' d' k = (n, m)) ∧ Hid (newR n (m * wt) = ((g0, g1), 0)) ∧
          Below w.heap.size w wr ∧ wr.heap[w.heap.size]? = some (.cells #[.int .i64 a, .int .i64 b, .int .i64 c, .int .i64 d] 23 (0, 0)) ∧ wr.heap[w.heap.size + 1]? = some (.cells #[.int .i64 a', .int .i64 b', .int .i64 c', .int .i64 d'] 23 (0, 0)) ∧ wr.heap[w.heap.size + 1 + 1]? = some (.cells #[.int .u64 0, .int .u64 0] 48 (0, 0)) ∧ wr.heap[wo.heap.size]? = some (.cells #[.int .u64 g0, .int .u64 g1] 48 (0, 0)) ∧ wo.heap.size < wr.heap.size) (fun i _ => 4 - (intOf i).toNat)
        case atStart => exact ⟨0, 0, 1, 0, 1, rfl, by omega, by omega, by omega, by omega, by omega, rfl, newR_init w0, (by repeat (first | with_reducible assumption | with_reducible exact Below.refl _ _ | with_reducible refine Below.drew ?_ | with_reducible refine below_drewN ?_ _ | with_reducible refine below_alloc ?_ _ | with_reducible refine Below.alloc ?_ (by first | omega | (simp; done) | (simp; omega)) _ | with_reducible refine Below.setCell ?_ (by first | omega | (simp; done) | (simp; omega)) _ | with_reducible refine below_setRow ?_ (by first | omega | (simp; done) | (simp; omega)) _)), (by (repeat (first | (with_reducible assumption) | (with_reducible exact alloc_at _ _) | ((with_reducible apply alloc_at'); (simp; done)) | (with_reducible apply alloc_at_lt) | (with_reducible apply heap_drew_at) | (with_reducible apply heap_drewN_at) | (with_reducible apply heap_setCell_same) | ((with_reducible apply heap_set_ne); (first | omega | (dsimp only; omega) | (simp; done) | (simp; omega))) | (with_reducible apply setRow_at) | ((with_reducible apply setRow_ne); (first | omega | (dsimp only; omega) | (simp; done) | (simp; omega)))))), (by (repeat (first | (with_reducible assumption) | (with_reducible exact alloc_at _ _) | ((with_reducible apply alloc_at'); (simp; done)) | (with_reducible apply alloc_at_lt) | (with_reducible apply heap_drew_at) | (with_reducible apply heap_drewN_at) | (with_reducible apply heap_setCell_same) | ((with_reducible apply heap_set_ne); (first | omega | (dsimp only; omega) | (simp; done) | (simp; omega))) | (with_reducible apply setRow_at) | ((with_reducible apply setRow_ne); (first | omega | (dsimp only; omega) | (simp; done) | (simp; omega)))))), (by (repeat (first | (with_reducible assumption) | (with_reducible exact alloc_at _ _) | ((with_reducible apply alloc_at'); (simp; done)) | (with_reducible apply alloc_at_lt) | (with_reducible apply heap_drew_at) | (with_reducible apply heap_drewN_at) | (with_reducible apply heap_setCell_same) | ((with_reducible apply heap_set_ne); (first | omega | (dsimp only; omega) | (simp; done) | (simp; omega))) | (with_reducible apply setRow_at) | ((with_reducible apply setRow_ne); (first | omega | (dsimp only; omega) | (simp; done) | (simp; omega)))))), (by (repeat (first | (with_reducible assumption) | (with_reducible exact alloc_at _ _) | ((with_reducible apply alloc_at'); (simp; done)) | (with_reducible apply alloc_at_lt) | (with_reducible apply heap_drew_at) | (with_reducible apply heap_drewN_at) | (with_reducible apply heap_setCell_same) | ((with_reducible apply heap_set_ne); (first | omega | (dsimp only; omega) | (simp; done) | (simp; omega))) | (with_reducible apply setRow_at) | ((with_reducible apply setRow_ne); (first | omega | (dsimp only; omega) | (simp; done) | (simp; omega)))))), by simp⟩
        case round =>
          clear X2 Y2 Z2 B2
          obtain ⟨k, n, m, g0, g1, rfl, hk, n0, n1, m0, m1, hbk, hnw, hB, hX, hY, hZ, hG, hsz⟩ := hrel
          have hle1 : w.heap.size < wr.heap.size := by omega
          have hle2 : w.heap.size + 1 < wr.heap.size := by omega
          have hle3 : w.heap.size + 1 + 1 < wr.heap.size := by omega
          have q1 := prod_le (x := m) (y := wt) (m := 1099511627776) (n := 1000) (by omega) (by omega) (by omega) (by omega)
          have q0 : 0 < m * wt := Int.mul_pos (by omega) (by omega)
          have gb := newR_bd n0 q0
          rw [hnw.out] at gb
          obtain ⟨gb0, gb1, gb2, gb3, -⟩ := gb
          simp only at gb0 gb1 gb2 gb3
          have gb4 : g0 ≤ 1099511627776 := by omega
          have gb5 : g1 ≤ 1099511627776000 := by omega
          clear q1 gb1 gb3
          replace q0 := hid q0
          obtain ⟨x0, x1, x2, x3, xf⟩ := four hX
          obtain ⟨y0, y1, y2, y3, yf⟩ := four hY
          obtain ⟨z0, z1, zf⟩ := two hZ
          obtain ⟨G0, G1, Gf⟩ := two hG
          have HX := hid hX
          have HY := hid hY
          have HZ := hid hZ
          have HG := hid hG
          clear hX hY hZ hG
          obtain rfl | rfl | rfl | rfl | rfl : k = 0 ∨ k = 1 ∨ k = 2 ∨ k = 3 ∨ k = 4 := by omega
          · have hnext : bk a b c d a' b' c' d' 1 = stp (bk a b c d a' b' c' d' 0) a a' := rfl
            rw [hbk.out] at hnext
            have HN := hid hnext
            clear hnext hbk
            by_cases hz : a' = 0
            · have hq : (a' == 0) = true := by simp [hz]
              have HQ := hid hz
              clear hz
              go_wp2
              go_roundw
              case rel => exact ⟨1, n, m, g0, g1, by go_num, by omega, n0, n1, m0, m1, by unfold Hid; rw [HN.out, HQ.out, stp_zero], hnw, hB, HX.out, HY.out, HZ.out, HG.out, hsz⟩
              case measure => simp [intOf]
            · have hq : (a' == 0) = false := by simpa using hz
              have q2 := prod_le (x := a') (y := wt) (m := 1099511627776) (n := 1000) (by omega) (by omega) (by omega) (by omega)
              have q3 : 0 < a' * wt := Int.mul_pos (by omega) (by omega)
              obtain ⟨q4, q5⟩ := q2
              have hnew : ∀ W, Calls Try.prog 31 #[.int .u64 a, .int .u64 (a' * wt)] W fun e w' => e = .returned (.tuple #[.agg #[.int .u64 (newR a (a' * wt)).1.1, .int .u64 (newR a (a' * wt)).1.2], .int .i64 (newR a (a' * wt)).2]) ∧ Below W.heap.size W w' := fun W => new_any a (a' * wt) W (by omega) (by omega) (by omega) (by omega)
              have hcz : cmpR (newR a (a' * wt)).1.1 (newR a (a' * wt)).1.2 g0 g1 = (cmpZ (a * m) (n * a'), 0) := by
                have h := cmp_new a (a' * wt) n (m * wt) q3 q0.out
                rw [hnw.out, cmp_weight _ _ _ _ _ (by omega)] at h
                exact h
              have rb := newR_bd (n := a) (d := a' * wt) (by omega) q3
              obtain ⟨⟨⟨r0, r1⟩, r2⟩, hr⟩ : ∃ r, newR a (a' * wt) = r := ⟨_, rfl⟩
              rw [hr] at hnew hcz rb
              simp only at hnew hcz rb
              obtain ⟨rb0, rb1, rb2, rb3, rfl⟩ := rb
              have rb4 : r0 ≤ 1099511627776 := by omega
              have rb5 : r1 ≤ 1099511627776000 := by omega
              have hcmp : ∀ W, Calls Try.prog 32 #[.agg #[.int .u64 r0, .int .u64 r1], .agg #[.int .u64 g0, .int .u64 g1]] W fun e w' => e = .returned (.tuple #[.int .i64 (cmpZ (a * m) (n * a')), .int .i64 0]) ∧ Below W.heap.size W w' := fun W => by
                have h := cmpR_any r0 r1 g0 g1 W rb0 (by omega) rb2 (by omega) gb0 (by omega) gb2 (by omega)
                rw [hcz] at h
                exact h
              have hgt := @cmpZ_gt (a * m) (n * a')
              have HQ := hid hz
              have HR := hid hr
              have HW := hid hnew
              have HC := hid hcmp
              clear hz hr hnew hcmp hcz rb1 rb3
              generalize cmpZ (a * m) (n * a') = cz at *
              have HT := hid hgt
              clear hgt
              go_wp2_with fail
              refine (HW.out _).mono ?_
              rintro e w3 ⟨rfl, hb3⟩
              have X2 := HX.out
              have Y2 := HY.out
              have Z2 := HZ.out
              have G2 := HG.out
              have hs3 := hb3.size
              try simp only [World.size_alloc] at hs3
              have X3 : w3.heap[w.heap.size]? = some (.cells #[.int .i64 a, .int .i64 b, .int .i64 c, .int .i64 d] 23 (0, 0)) := below_at hb3 (by first | omega | (simp; done) | (simp; omega)) (by (repeat (first | (with_reducible assumption) | (with_reducible exact alloc_at _ _) | ((with_reducible apply alloc_at'); (simp; done)) | (with_reducible apply alloc_at_lt) | (with_reducible apply heap_drew_at) | (with_reducible apply heap_drewN_at) | (with_reducible apply heap_setCell_same) | ((with_reducible apply heap_set_ne); (first | omega | (dsimp only; omega) | (simp; done) | (simp; omega))) | (with_reducible apply setRow_at) | ((with_reducible apply setRow_ne); (first | omega | (dsimp only; omega) | (simp; done) | (simp; omega))))))
              have Y3 : w3.heap[w.heap.size + 1]? = some (.cells #[.int .i64 a', .int .i64 b', .int .i64 c', .int .i64 d'] 23 (0, 0)) := below_at hb3 (by first | omega | (simp; done) | (simp; omega)) (by (repeat (first | (with_reducible assumption) | (with_reducible exact alloc_at _ _) | ((with_reducible apply alloc_at'); (simp; done)) | (with_reducible apply alloc_at_lt) | (with_reducible apply heap_drew_at) | (with_reducible apply heap_drewN_at) | (with_reducible apply heap_setCell_same) | ((with_reducible apply heap_set_ne); (first | omega | (dsimp only; omega) | (simp; done) | (simp; omega))) | (with_reducible apply setRow_at) | ((with_reducible apply setRow_ne); (first | omega | (dsimp only; omega) | (simp; done) | (simp; omega))))))
              have Z3 : w3.heap[w.heap.size + 1 + 1]? = some (.cells #[.int .u64 0, .int .u64 0] 48 (0, 0)) := below_at hb3 (by first | omega | (simp; done) | (simp; omega)) (by (repeat (first | (with_reducible assumption) | (with_reducible exact alloc_at _ _) | ((with_reducible apply alloc_at'); (simp; done)) | (with_reducible apply alloc_at_lt) | (with_reducible apply heap_drew_at) | (with_reducible apply heap_drewN_at) | (with_reducible apply heap_setCell_same) | ((with_reducible apply heap_set_ne); (first | omega | (dsimp only; omega) | (simp; done) | (simp; omega))) | (with_reducible apply setRow_at) | ((with_reducible apply setRow_ne); (first | omega | (dsimp only; omega) | (simp; done) | (simp; omega))))))
              have G3 : w3.heap[wo.heap.size]? = some (.cells #[.int .u64 g0, .int .u64 g1] 48 (0, 0)) := below_at hb3 (by first | omega | (simp; done) | (simp; omega)) (by (repeat (first | (with_reducible assumption) | (with_reducible exact alloc_at _ _) | ((with_reducible apply alloc_at'); (simp; done)) | (with_reducible apply alloc_at_lt) | (with_reducible apply heap_drew_at) | (with_reducible apply heap_drewN_at) | (with_reducible apply heap_setCell_same) | ((with_reducible apply heap_set_ne); (first | omega | (dsimp only; omega) | (simp; done) | (simp; omega))) | (with_reducible apply setRow_at) | ((with_reducible apply setRow_ne); (first | omega | (dsimp only; omega) | (simp; done) | (simp; omega))))))
              have B3 : Below w.heap.size w w3 := Below.trans hB (hb3.mono (by omega))
              clear hb3 X2 Y2 Z2 G2 HX HY HZ HG x0 x1 x2 x3 xf y0 y1 y2 y3 yf z0 z1 zf G0 G1 Gf
              obtain ⟨G0, G1, Gf⟩ := two G3
              have k1 : wo.heap.size < w3.heap.size := by omega
              go_wp2_with fail
              refine (HC.out _).mono ?_
              rintro e w4 ⟨rfl, hb4⟩
              have hs4 := hb4.size
              try simp only [World.size_alloc] at hs4
              have X4 : w4.heap[w.heap.size]? = some (.cells #[.int .i64 a, .int .i64 b, .int .i64 c, .int .i64 d] 23 (0, 0)) := below_at hb4 (by first | omega | (simp; done) | (simp; omega)) (by (repeat (first | (with_reducible assumption) | (with_reducible exact alloc_at _ _) | ((with_reducible apply alloc_at'); (simp; done)) | (with_reducible apply alloc_at_lt) | (with_reducible apply heap_drew_at) | (with_reducible apply heap_drewN_at) | (with_reducible apply heap_setCell_same) | ((with_reducible apply heap_set_ne); (first | omega | (dsimp only; omega) | (simp; done) | (simp; omega))) | (with_reducible apply setRow_at) | ((with_reducible apply setRow_ne); (first | omega | (dsimp only; omega) | (simp; done) | (simp; omega))))))
              have Y4 : w4.heap[w.heap.size + 1]? = some (.cells #[.int .i64 a', .int .i64 b', .int .i64 c', .int .i64 d'] 23 (0, 0)) := below_at hb4 (by first | omega | (simp; done) | (simp; omega)) (by (repeat (first | (with_reducible assumption) | (with_reducible exact alloc_at _ _) | ((with_reducible apply alloc_at'); (simp; done)) | (with_reducible apply alloc_at_lt) | (with_reducible apply heap_drew_at) | (with_reducible apply heap_drewN_at) | (with_reducible apply heap_setCell_same) | ((with_reducible apply heap_set_ne); (first | omega | (dsimp only; omega) | (simp; done) | (simp; omega))) | (with_reducible apply setRow_at) | ((with_reducible apply setRow_ne); (first | omega | (dsimp only; omega) | (simp; done) | (simp; omega))))))
              have Z4 : w4.heap[w.heap.size + 1 + 1]? = some (.cells #[.int .u64 0, .int .u64 0] 48 (0, 0)) := below_at hb4 (by first | omega | (simp; done) | (simp; omega)) (by (repeat (first | (with_reducible assumption) | (with_reducible exact alloc_at _ _) | ((with_reducible apply alloc_at'); (simp; done)) | (with_reducible apply alloc_at_lt) | (with_reducible apply heap_drew_at) | (with_reducible apply heap_drewN_at) | (with_reducible apply heap_setCell_same) | ((with_reducible apply heap_set_ne); (first | omega | (dsimp only; omega) | (simp; done) | (simp; omega))) | (with_reducible apply setRow_at) | ((with_reducible apply setRow_ne); (first | omega | (dsimp only; omega) | (simp; done) | (simp; omega))))))
              have G4 : w4.heap[wo.heap.size]? = some (.cells #[.int .u64 g0, .int .u64 g1] 48 (0, 0)) := below_at hb4 (by first | omega | (simp; done) | (simp; omega)) (by (repeat (first | (with_reducible assumption) | (with_reducible exact alloc_at _ _) | ((with_reducible apply alloc_at'); (simp; done)) | (with_reducible apply alloc_at_lt) | (with_reducible apply heap_drew_at) | (with_reducible apply heap_drewN_at) | (with_reducible apply heap_setCell_same) | ((with_reducible apply heap_set_ne); (first | omega | (dsimp only; omega) | (simp; done) | (simp; omega))) | (with_reducible apply setRow_at) | ((with_reducible apply setRow_ne); (first | omega | (dsimp only; omega) | (simp; done) | (simp; omega))))))
              have R4 : w4.heap[w3.heap.size]? = some (.cells #[.int .u64 r0, .int .u64 r1] 48 (0, 0)) := below_at hb4 (by first | omega | (simp; done) | (simp; omega)) (by (repeat (first | (with_reducible assumption) | (with_reducible exact alloc_at _ _) | ((with_reducible apply alloc_at'); (simp; done)) | (with_reducible apply alloc_at_lt) | (with_reducible apply heap_drew_at) | (with_reducible apply heap_drewN_at) | (with_reducible apply heap_setCell_same) | ((with_reducible apply heap_set_ne); (first | omega | (dsimp only; omega) | (simp; done) | (simp; omega))) | (with_reducible apply setRow_at) | ((with_reducible apply setRow_ne); (first | omega | (dsimp only; omega) | (simp; done) | (simp; omega))))))
              have B4 : Below w.heap.size w w4 := Below.trans (by repeat (first | with_reducible assumption | with_reducible exact Below.refl _ _ | with_reducible refine Below.drew ?_ | with_reducible refine below_drewN ?_ _ | with_reducible refine below_alloc ?_ _ | with_reducible refine Below.alloc ?_ (by first | omega | (simp; done) | (simp; omega)) _ | with_reducible refine Below.setCell ?_ (by first | omega | (simp; done) | (simp; omega)) _ | with_reducible refine below_setRow ?_ (by first | omega | (simp; done) | (simp; omega)) _)) (hb4.mono (by first | omega | (simp; done) | (simp; omega)))
              clear hb4 X3 Y3 Z3 G3 G0 G1 Gf
              obtain ⟨G0, G1, Gf⟩ := two G4
              obtain ⟨R0, R1, Rf⟩ := two R4
              have k2 : wo.heap.size < w4.heap.size := by omega
              have k3 : w3.heap.size < w4.heap.size := by omega
              have k4 : w.heap.size + 1 + 1 < wo.heap.size := hso
              by_cases hc0 : 0 < cz
              · have hlt : n * a' < a * m := HT.out.1 hc0
                have HL := hid hlt
                clear hlt
                go_wp2
                go_roundw
                case rel =>
                  refine ⟨1, a, a', r0, r1, by go_num, by omega, by omega, by omega, by have := HQ.out; omega, by omega, by unfold Hid; rw [HN.out, stp_up HQ.out HL.out], HR.out, (by repeat (first | with_reducible assumption | with_reducible exact Below.refl _ _ | with_reducible refine Below.drew ?_ | with_reducible refine below_drewN ?_ _ | with_reducible refine below_alloc ?_ _ | with_reducible refine Below.alloc ?_ (by first | omega | (simp; done) | (simp; omega)) _ | with_reducible refine Below.setCell ?_ (by first | omega | (simp; done) | (simp; omega)) _ | with_reducible refine below_setRow ?_ (by first | omega | (simp; done) | (simp; omega)) _)), (by (repeat (first | (with_reducible assumption) | (with_reducible exact alloc_at _ _) | ((with_reducible apply alloc_at'); (simp; done)) | (with_reducible apply alloc_at_lt) | (with_reducible apply heap_drew_at) | (with_reducible apply heap_drewN_at) | (with_reducible apply heap_setCell_same) | ((with_reducible apply heap_set_ne); (first | omega | (dsimp only; omega) | (simp; done) | (simp; omega))) | (with_reducible apply setRow_at) | ((with_reducible apply setRow_ne); (first | omega | (dsimp only; omega) | (simp; done) | (simp; omega)))))), (by (repeat (first | (with_reducible assumption) | (with_reducible exact alloc_at _ _) | ((with_reducible apply alloc_at'); (simp; done)) | (with_reducible apply alloc_at_lt) | (with_reducible apply heap_drew_at) | (with_reducible apply heap_drewN_at) | (with_reducible apply heap_setCell_same) | ((with_reducible apply heap_set_ne); (first | omega | (dsimp only; omega) | (simp; done) | (simp; omega))) | (with_reducible apply setRow_at) | ((with_reducible apply setRow_ne); (first | omega | (dsimp only; omega) | (simp; done) | (simp; omega)))))), (by (repeat (first | (with_reducible assumption) | (with_reducible exact alloc_at _ _) | ((with_reducible apply alloc_at'); (simp; done)) | (with_reducible apply alloc_at_lt) | (with_reducible apply heap_drew_at) | (with_reducible apply heap_drewN_at) | (with_reducible apply heap_setCell_same) | ((with_reducible apply heap_set_ne); (first | omega | (dsimp only; omega) | (simp; done) | (simp; omega))) | (with_reducible apply setRow_at) | ((with_reducible apply setRow_ne); (first | omega | (dsimp only; omega) | (simp; done) | (simp; omega)))))), ?_, by simp; omega⟩
                  have := heap_setCell_same _ _ 1 _ _ (.int .u64 r1) (heap_setCell_same _ _ 0 _ _ (.int .u64 r0) G4)
                  simpa using this
                case measure => simp [intOf]
              · have hlt : ¬ n * a' < a * m := fun h => hc0 (HT.out.2 h)
                have HL := hid hlt
                have hc1 : cz ≤ 0 := by omega
                clear hlt hc0
                go_wp2
                go_roundw
                case rel => exact ⟨1, n, m, g0, g1, by go_num, by omega, n0, n1, m0, m1, by unfold Hid; rw [HN.out, stp_no (s := (n, m)) HQ.out (by have h := HL.out; simp only; omega)], hnw, B4, X4, Y4, Z4, G4, by omega⟩
                case measure => simp [intOf]
          · have hnext : bk a b c d a' b' c' d' 2 = stp (bk a b c d a' b' c' d' 1) b b' := rfl
            rw [hbk.out] at hnext
            have HN := hid hnext
            clear hnext hbk
            by_cases hz : b' = 0
            · have hq : (b' == 0) = true := by simp [hz]
              have HQ := hid hz
              clear hz
              go_wp2
              go_roundw
              case rel => exact ⟨2, n, m, g0, g1, by go_num, by omega, n0, n1, m0, m1, by unfold Hid; rw [HN.out, HQ.out, stp_zero], hnw, hB, HX.out, HY.out, HZ.out, HG.out, hsz⟩
              case measure => simp [intOf]
            · have hq : (b' == 0) = false := by simpa using hz
              have q2 := prod_le (x := b') (y := wt) (m := 1099511627776) (n := 1000) (by omega) (by omega) (by omega) (by omega)
              have q3 : 0 < b' * wt := Int.mul_pos (by omega) (by omega)
              obtain ⟨q4, q5⟩ := q2
              have hnew : ∀ W, Calls Try.prog 31 #[.int .u64 b, .int .u64 (b' * wt)] W fun e w' => e = .returned (.tuple #[.agg #[.int .u64 (newR b (b' * wt)).1.1, .int .u64 (newR b (b' * wt)).1.2], .int .i64 (newR b (b' * wt)).2]) ∧ Below W.heap.size W w' := fun W => new_any b (b' * wt) W (by omega) (by omega) (by omega) (by omega)
              have hcz : cmpR (newR b (b' * wt)).1.1 (newR b (b' * wt)).1.2 g0 g1 = (cmpZ (b * m) (n * b'), 0) := by
                have h := cmp_new b (b' * wt) n (m * wt) q3 q0.out
                rw [hnw.out, cmp_weight _ _ _ _ _ (by omega)] at h
                exact h
              have rb := newR_bd (n := b) (d := b' * wt) (by omega) q3
              obtain ⟨⟨⟨r0, r1⟩, r2⟩, hr⟩ : ∃ r, newR b (b' * wt) = r := ⟨_, rfl⟩
              rw [hr] at hnew hcz rb
              simp only at hnew hcz rb
              obtain ⟨rb0, rb1, rb2, rb3, rfl⟩ := rb
              have rb4 : r0 ≤ 1099511627776 := by omega
              have rb5 : r1 ≤ 1099511627776000 := by omega
              have hcmp : ∀ W, Calls Try.prog 32 #[.agg #[.int .u64 r0, .int .u64 r1], .agg #[.int .u64 g0, .int .u64 g1]] W fun e w' => e = .returned (.tuple #[.int .i64 (cmpZ (b * m) (n * b')), .int .i64 0]) ∧ Below W.heap.size W w' := fun W => by
                have h := cmpR_any r0 r1 g0 g1 W rb0 (by omega) rb2 (by omega) gb0 (by omega) gb2 (by omega)
                rw [hcz] at h
                exact h
              have hgt := @cmpZ_gt (b * m) (n * b')
              have HQ := hid hz
              have HR := hid hr
              have HW := hid hnew
              have HC := hid hcmp
              clear hz hr hnew hcmp hcz rb1 rb3
              generalize cmpZ (b * m) (n * b') = cz at *
              have HT := hid hgt
              clear hgt
              go_wp2_with fail
              refine (HW.out _).mono ?_
              rintro e w3 ⟨rfl, hb3⟩
              have X2 := HX.out
              have Y2 := HY.out
              have Z2 := HZ.out
              have G2 := HG.out
              have hs3 := hb3.size
              try simp only [World.size_alloc] at hs3
              have X3 : w3.heap[w.heap.size]? = some (.cells #[.int .i64 a, .int .i64 b, .int .i64 c, .int .i64 d] 23 (0, 0)) := below_at hb3 (by first | omega | (simp; done) | (simp; omega)) (by (repeat (first | (with_reducible assumption) | (with_reducible exact alloc_at _ _) | ((with_reducible apply alloc_at'); (simp; done)) | (with_reducible apply alloc_at_lt) | (with_reducible apply heap_drew_at) | (with_reducible apply heap_drewN_at) | (with_reducible apply heap_setCell_same) | ((with_reducible apply heap_set_ne); (first | omega | (dsimp only; omega) | (simp; done) | (simp; omega))) | (with_reducible apply setRow_at) | ((with_reducible apply setRow_ne); (first | omega | (dsimp only; omega) | (simp; done) | (simp; omega))))))
              have Y3 : w3.heap[w.heap.size + 1]? = some (.cells #[.int .i64 a', .int .i64 b', .int .i64 c', .int .i64 d'] 23 (0, 0)) := below_at hb3 (by first | omega | (simp; done) | (simp; omega)) (by (repeat (first | (with_reducible assumption) | (with_reducible exact alloc_at _ _) | ((with_reducible apply alloc_at'); (simp; done)) | (with_reducible apply alloc_at_lt) | (with_reducible apply heap_drew_at) | (with_reducible apply heap_drewN_at) | (with_reducible apply heap_setCell_same) | ((with_reducible apply heap_set_ne); (first | omega | (dsimp only; omega) | (simp; done) | (simp; omega))) | (with_reducible apply setRow_at) | ((with_reducible apply setRow_ne); (first | omega | (dsimp only; omega) | (simp; done) | (simp; omega))))))
              have Z3 : w3.heap[w.heap.size + 1 + 1]? = some (.cells #[.int .u64 0, .int .u64 0] 48 (0, 0)) := below_at hb3 (by first | omega | (simp; done) | (simp; omega)) (by (repeat (first | (with_reducible assumption) | (with_reducible exact alloc_at _ _) | ((with_reducible apply alloc_at'); (simp; done)) | (with_reducible apply alloc_at_lt) | (with_reducible apply heap_drew_at) | (with_reducible apply heap_drewN_at) | (with_reducible apply heap_setCell_same) | ((with_reducible apply heap_set_ne); (first | omega | (dsimp only; omega) | (simp; done) | (simp; omega))) | (with_reducible apply setRow_at) | ((with_reducible apply setRow_ne); (first | omega | (dsimp only; omega) | (simp; done) | (simp; omega))))))
              have G3 : w3.heap[wo.heap.size]? = some (.cells #[.int .u64 g0, .int .u64 g1] 48 (0, 0)) := below_at hb3 (by first | omega | (simp; done) | (simp; omega)) (by (repeat (first | (with_reducible assumption) | (with_reducible exact alloc_at _ _) | ((with_reducible apply alloc_at'); (simp; done)) | (with_reducible apply alloc_at_lt) | (with_reducible apply heap_drew_at) | (with_reducible apply heap_drewN_at) | (with_reducible apply heap_setCell_same) | ((with_reducible apply heap_set_ne); (first | omega | (dsimp only; omega) | (simp; done) | (simp; omega))) | (with_reducible apply setRow_at) | ((with_reducible apply setRow_ne); (first | omega | (dsimp only; omega) | (simp; done) | (simp; omega))))))
              have B3 : Below w.heap.size w w3 := Below.trans hB (hb3.mono (by omega))
              clear hb3 X2 Y2 Z2 G2 HX HY HZ HG x0 x1 x2 x3 xf y0 y1 y2 y3 yf z0 z1 zf G0 G1 Gf
              obtain ⟨G0, G1, Gf⟩ := two G3
              have k1 : wo.heap.size < w3.heap.size := by omega
              go_wp2_with fail
              refine (HC.out _).mono ?_
              rintro e w4 ⟨rfl, hb4⟩
              have hs4 := hb4.size
              try simp only [World.size_alloc] at hs4
              have X4 : w4.heap[w.heap.size]? = some (.cells #[.int .i64 a, .int .i64 b, .int .i64 c, .int .i64 d] 23 (0, 0)) := below_at hb4 (by first | omega | (simp; done) | (simp; omega)) (by (repeat (first | (with_reducible assumption) | (with_reducible exact alloc_at _ _) | ((with_reducible apply alloc_at'); (simp; done)) | (with_reducible apply alloc_at_lt) | (with_reducible apply heap_drew_at) | (with_reducible apply heap_drewN_at) | (with_reducible apply heap_setCell_same) | ((with_reducible apply heap_set_ne); (first | omega | (dsimp only; omega) | (simp; done) | (simp; omega))) | (with_reducible apply setRow_at) | ((with_reducible apply setRow_ne); (first | omega | (dsimp only; omega) | (simp; done) | (simp; omega))))))
              have Y4 : w4.heap[w.heap.size + 1]? = some (.cells #[.int .i64 a', .int .i64 b', .int .i64 c', .int .i64 d'] 23 (0, 0)) := below_at hb4 (by first | omega | (simp; done) | (simp; omega)) (by (repeat (first | (with_reducible assumption) | (with_reducible exact alloc_at _ _) | ((with_reducible apply alloc_at'); (simp; done)) | (with_reducible apply alloc_at_lt) | (with_reducible apply heap_drew_at) | (with_reducible apply heap_drewN_at) | (with_reducible apply heap_setCell_same) | ((with_reducible apply heap_set_ne); (first | omega | (dsimp only; omega) | (simp; done) | (simp; omega))) | (with_reducible apply setRow_at) | ((with_reducible apply setRow_ne); (first | omega | (dsimp only; omega) | (simp; done) | (simp; omega))))))
              have Z4 : w4.heap[w.heap.size + 1 + 1]? = some (.cells #[.int .u64 0, .int .u64 0] 48 (0, 0)) := below_at hb4 (by first | omega | (simp; done) | (simp; omega)) (by (repeat (first | (with_reducible assumption) | (with_reducible exact alloc_at _ _) | ((with_reducible apply alloc_at'); (simp; done)) | (with_reducible apply alloc_at_lt) | (with_reducible apply heap_drew_at) | (with_reducible apply heap_drewN_at) | (with_reducible apply heap_setCell_same) | ((with_reducible apply heap_set_ne); (first | omega | (dsimp only; omega) | (simp; done) | (simp; omega))) | (with_reducible apply setRow_at) | ((with_reducible apply setRow_ne); (first | omega | (dsimp only; omega) | (simp; done) | (simp; omega))))))
              have G4 : w4.heap[wo.heap.size]? = some (.cells #[.int .u64 g0, .int .u64 g1] 48 (0, 0)) := below_at hb4 (by first | omega | (simp; done) | (simp; omega)) (by (repeat (first | (with_reducible assumption) | (with_reducible exact alloc_at _ _) | ((with_reducible apply alloc_at'); (simp; done)) | (with_reducible apply alloc_at_lt) | (with_reducible apply heap_drew_at) | (with_reducible apply heap_drewN_at) | (with_reducible apply heap_setCell_same) | ((with_reducible apply heap_set_ne); (first | omega | (dsimp only; omega) | (simp; done) | (simp; omega))) | (with_reducible apply setRow_at) | ((with_reducible apply setRow_ne); (first | omega | (dsimp only; omega) | (simp; done) | (simp; omega))))))
              have R4 : w4.heap[w3.heap.size]? = some (.cells #[.int .u64 r0, .int .u64 r1] 48 (0, 0)) := below_at hb4 (by first | omega | (simp; done) | (simp; omega)) (by (repeat (first | (with_reducible assumption) | (with_reducible exact alloc_at _ _) | ((with_reducible apply alloc_at'); (simp; done)) | (with_reducible apply alloc_at_lt) | (with_reducible apply heap_drew_at) | (with_reducible apply heap_drewN_at) | (with_reducible apply heap_setCell_same) | ((with_reducible apply heap_set_ne); (first | omega | (dsimp only; omega) | (simp; done) | (simp; omega))) | (with_reducible apply setRow_at) | ((with_reducible apply setRow_ne); (first | omega | (dsimp only; omega) | (simp; done) | (simp; omega))))))
              have B4 : Below w.heap.size w w4 := Below.trans (by repeat (first | with_reducible assumption | with_reducible exact Below.refl _ _ | with_reducible refine Below.drew ?_ | with_reducible refine below_drewN ?_ _ | with_reducible refine below_alloc ?_ _ | with_reducible refine Below.alloc ?_ (by first | omega | (simp; done) | (simp; omega)) _ | with_reducible refine Below.setCell ?_ (by first | omega | (simp; done) | (simp; omega)) _ | with_reducible refine below_setRow ?_ (by first | omega | (simp; done) | (simp; omega)) _)) (hb4.mono (by first | omega | (simp; done) | (simp; omega)))
              clear hb4 X3 Y3 Z3 G3 G0 G1 Gf
              obtain ⟨G0, G1, Gf⟩ := two G4
              obtain ⟨R0, R1, Rf⟩ := two R4
              have k2 : wo.heap.size < w4.heap.size := by omega
              have k3 : w3.heap.size < w4.heap.size := by omega
              have k4 : w.heap.size + 1 + 1 < wo.heap.size := hso
              by_cases hc0 : 0 < cz
              · have hlt : n * b' < b * m := HT.out.1 hc0
                have HL := hid hlt
                clear hlt
                go_wp2
                go_roundw
                case rel =>
                  refine ⟨2, b, b', r0, r1, by go_num, by omega, by omega, by omega, by have := HQ.out; omega, by omega, by unfold Hid; rw [HN.out, stp_up HQ.out HL.out], HR.out, (by repeat (first | with_reducible assumption | with_reducible exact Below.refl _ _ | with_reducible refine Below.drew ?_ | with_reducible refine below_drewN ?_ _ | with_reducible refine below_alloc ?_ _ | with_reducible refine Below.alloc ?_ (by first | omega | (simp; done) | (simp; omega)) _ | with_reducible refine Below.setCell ?_ (by first | omega | (simp; done) | (simp; omega)) _ | with_reducible refine below_setRow ?_ (by first | omega | (simp; done) | (simp; omega)) _)), (by (repeat (first | (with_reducible assumption) | (with_reducible exact alloc_at _ _) | ((with_reducible apply alloc_at'); (simp; done)) | (with_reducible apply alloc_at_lt) | (with_reducible apply heap_drew_at) | (with_reducible apply heap_drewN_at) | (with_reducible apply heap_setCell_same) | ((with_reducible apply heap_set_ne); (first | omega | (dsimp only; omega) | (simp; done) | (simp; omega))) | (with_reducible apply setRow_at) | ((with_reducible apply setRow_ne); (first | omega | (dsimp only; omega) | (simp; done) | (simp; omega)))))), (by (repeat (first | (with_reducible assumption) | (with_reducible exact alloc_at _ _) | ((with_reducible apply alloc_at'); (simp; done)) | (with_reducible apply alloc_at_lt) | (with_reducible apply heap_drew_at) | (with_reducible apply heap_drewN_at) | (with_reducible apply heap_setCell_same) | ((with_reducible apply heap_set_ne); (first | omega | (dsimp only; omega) | (simp; done) | (simp; omega))) | (with_reducible apply setRow_at) | ((with_reducible apply setRow_ne); (first | omega | (dsimp only; omega) | (simp; done) | (simp; omega)))))), (by (repeat (first | (with_reducible assumption) | (with_reducible exact alloc_at _ _) | ((with_reducible apply alloc_at'); (simp; done)) | (with_reducible apply alloc_at_lt) | (with_reducible apply heap_drew_at) | (with_reducible apply heap_drewN_at) | (with_reducible apply heap_setCell_same) | ((with_reducible apply heap_set_ne); (first | omega | (dsimp only; omega) | (simp; done) | (simp; omega))) | (with_reducible apply setRow_at) | ((with_reducible apply setRow_ne); (first | omega | (dsimp only; omega) | (simp; done) | (simp; omega)))))), ?_, by simp; omega⟩
                  have := heap_setCell_same _ _ 1 _ _ (.int .u64 r1) (heap_setCell_same _ _ 0 _ _ (.int .u64 r0) G4)
                  simpa using this
                case measure => simp [intOf]
              · have hlt : ¬ n * b' < b * m := fun h => hc0 (HT.out.2 h)
                have HL := hid hlt
                have hc1 : cz ≤ 0 := by omega
                clear hlt hc0
                go_wp2
                go_roundw
                case rel => exact ⟨2, n, m, g0, g1, by go_num, by omega, n0, n1, m0, m1, by unfold Hid; rw [HN.out, stp_no (s := (n, m)) HQ.out (by have h := HL.out; simp only; omega)], hnw, B4, X4, Y4, Z4, G4, by omega⟩
                case measure => simp [intOf]
          · have hnext : bk a b c d a' b' c' d' 3 = stp (bk a b c d a' b' c' d' 2) c c' := rfl
            rw [hbk.out] at hnext
            have HN := hid hnext
            clear hnext hbk
            by_cases hz : c' = 0
            · have hq : (c' == 0) = true := by simp [hz]
              have HQ := hid hz
              clear hz
              go_wp2
              go_roundw
              case rel => exact ⟨3, n, m, g0, g1, by go_num, by omega, n0, n1, m0, m1, by unfold Hid; rw [HN.out, HQ.out, stp_zero], hnw, hB, HX.out, HY.out, HZ.out, HG.out, hsz⟩
              case measure => simp [intOf]
            · have hq : (c' == 0) = false := by simpa using hz
              have q2 := prod_le (x := c') (y := wt) (m := 1099511627776) (n := 1000) (by omega) (by omega) (by omega) (by omega)
              have q3 : 0 < c' * wt := Int.mul_pos (by omega) (by omega)
              obtain ⟨q4, q5⟩ := q2
              have hnew : ∀ W, Calls Try.prog 31 #[.int .u64 c, .int .u64 (c' * wt)] W fun e w' => e = .returned (.tuple #[.agg #[.int .u64 (newR c (c' * wt)).1.1, .int .u64 (newR c (c' * wt)).1.2], .int .i64 (newR c (c' * wt)).2]) ∧ Below W.heap.size W w' := fun W => new_any c (c' * wt) W (by omega) (by omega) (by omega) (by omega)
              have hcz : cmpR (newR c (c' * wt)).1.1 (newR c (c' * wt)).1.2 g0 g1 = (cmpZ (c * m) (n * c'), 0) := by
                have h := cmp_new c (c' * wt) n (m * wt) q3 q0.out
                rw [hnw.out, cmp_weight _ _ _ _ _ (by omega)] at h
                exact h
              have rb := newR_bd (n := c) (d := c' * wt) (by omega) q3
              obtain ⟨⟨⟨r0, r1⟩, r2⟩, hr⟩ : ∃ r, newR c (c' * wt) = r := ⟨_, rfl⟩
              rw [hr] at hnew hcz rb
              simp only at hnew hcz rb
              obtain ⟨rb0, rb1, rb2, rb3, rfl⟩ := rb
              have rb4 : r0 ≤ 1099511627776 := by omega
              have rb5 : r1 ≤ 1099511627776000 := by omega
              have hcmp : ∀ W, Calls Try.prog 32 #[.agg #[.int .u64 r0, .int .u64 r1], .agg #[.int .u64 g0, .int .u64 g1]] W fun e w' => e = .returned (.tuple #[.int .i64 (cmpZ (c * m) (n * c')), .int .i64 0]) ∧ Below W.heap.size W w' := fun W => by
                have h := cmpR_any r0 r1 g0 g1 W rb0 (by omega) rb2 (by omega) gb0 (by omega) gb2 (by omega)
                rw [hcz] at h
                exact h
              have hgt := @cmpZ_gt (c * m) (n * c')
              have HQ := hid hz
              have HR := hid hr
              have HW := hid hnew
              have HC := hid hcmp
              clear hz hr hnew hcmp hcz rb1 rb3
              generalize cmpZ (c * m) (n * c') = cz at *
              have HT := hid hgt
              clear hgt
              go_wp2_with fail
              refine (HW.out _).mono ?_
              rintro e w3 ⟨rfl, hb3⟩
              have X2 := HX.out
              have Y2 := HY.out
              have Z2 := HZ.out
              have G2 := HG.out
              have hs3 := hb3.size
              try simp only [World.size_alloc] at hs3
              have X3 : w3.heap[w.heap.size]? = some (.cells #[.int .i64 a, .int .i64 b, .int .i64 c, .int .i64 d] 23 (0, 0)) := below_at hb3 (by first | omega | (simp; done) | (simp; omega)) (by (repeat (first | (with_reducible assumption) | (with_reducible exact alloc_at _ _) | ((with_reducible apply alloc_at'); (simp; done)) | (with_reducible apply alloc_at_lt) | (with_reducible apply heap_drew_at) | (with_reducible apply heap_drewN_at) | (with_reducible apply heap_setCell_same) | ((with_reducible apply heap_set_ne); (first | omega | (dsimp only; omega) | (simp; done) | (simp; omega))) | (with_reducible apply setRow_at) | ((with_reducible apply setRow_ne); (first | omega | (dsimp only; omega) | (simp; done) | (simp; omega))))))
              have Y3 : w3.heap[w.heap.size + 1]? = some (.cells #[.int .i64 a', .int .i64 b', .int .i64 c', .int .i64 d'] 23 (0, 0)) := below_at hb3 (by first | omega | (simp; done) | (simp; omega)) (by (repeat (first | (with_reducible assumption) | (with_reducible exact alloc_at _ _) | ((with_reducible apply alloc_at'); (simp; done)) | (with_reducible apply alloc_at_lt) | (with_reducible apply heap_drew_at) | (with_reducible apply heap_drewN_at) | (with_reducible apply heap_setCell_same) | ((with_reducible apply heap_set_ne); (first | omega | (dsimp only; omega) | (simp; done) | (simp; omega))) | (with_reducible apply setRow_at) | ((with_reducible apply setRow_ne); (first | omega | (dsimp only; omega) | (simp; done) | (simp; omega))))))
              have Z3 : w3.heap[w.heap.size + 1 + 1]? = some (.cells #[.int .u64 0, .int .u64 0] 48 (0, 0)) := below_at hb3 (by first | omega | (simp; done) | (simp; omega)) (by (repeat (first | (with_reducible assumption) | (with_reducible exact alloc_at _ _) | ((with_reducible apply alloc_at'); (simp; done)) | (with_reducible apply alloc_at_lt) | (with_reducible apply heap_drew_at) | (with_reducible apply heap_drewN_at) | (with_reducible apply heap_setCell_same) | ((with_reducible apply heap_set_ne); (first | omega | (dsimp only; omega) | (simp; done) | (simp; omega))) | (with_reducible apply setRow_at) | ((with_reducible apply setRow_ne); (first | omega | (dsimp only; omega) | (simp; done) | (simp; omega))))))
              have G3 : w3.heap[wo.heap.size]? = some (.cells #[.int .u64 g0, .int .u64 g1] 48 (0, 0)) := below_at hb3 (by first | omega | (simp; done) | (simp; omega)) (by (repeat (first | (with_reducible assumption) | (with_reducible exact alloc_at _ _) | ((with_reducible apply alloc_at'); (simp; done)) | (with_reducible apply alloc_at_lt) | (with_reducible apply heap_drew_at) | (with_reducible apply heap_drewN_at) | (with_reducible apply heap_setCell_same) | ((with_reducible apply heap_set_ne); (first | omega | (dsimp only; omega) | (simp; done) | (simp; omega))) | (with_reducible apply setRow_at) | ((with_reducible apply setRow_ne); (first | omega | (dsimp only; omega) | (simp; done) | (simp; omega))))))
              have B3 : Below w.heap.size w w3 := Below.trans hB (hb3.mono (by omega))
              clear hb3 X2 Y2 Z2 G2 HX HY HZ HG x0 x1 x2 x3 xf y0 y1 y2 y3 yf z0 z1 zf G0 G1 Gf
              obtain ⟨G0, G1, Gf⟩ := two G3
              have k1 : wo.heap.size < w3.heap.size := by omega
              go_wp2_with fail
              refine (HC.out _).mono ?_
              rintro e w4 ⟨rfl, hb4⟩
              have hs4 := hb4.size
              try simp only [World.size_alloc] at hs4
              have X4 : w4.heap[w.heap.size]? = some (.cells #[.int .i64 a, .int .i64 b, .int .i64 c, .int .i64 d] 23 (0, 0)) := below_at hb4 (by first | omega | (simp; done) | (simp; omega)) (by (repeat (first | (with_reducible assumption) | (with_reducible exact alloc_at _ _) | ((with_reducible apply alloc_at'); (simp; done)) | (with_reducible apply alloc_at_lt) | (with_reducible apply heap_drew_at) | (with_reducible apply heap_drewN_at) | (with_reducible apply heap_setCell_same) | ((with_reducible apply heap_set_ne); (first | omega | (dsimp only; omega) | (simp; done) | (simp; omega))) | (with_reducible apply setRow_at) | ((with_reducible apply setRow_ne); (first | omega | (dsimp only; omega) | (simp; done) | (simp; omega))))))
              have Y4 : w4.heap[w.heap.size + 1]? = some (.cells #[.int .i64 a', .int .i64 b', .int .i64 c', .int .i64 d'] 23 (0, 0)) := below_at hb4 (by first | omega | (simp; done) | (simp; omega)) (by (repeat (first | (with_reducible assumption) | (with_reducible exact alloc_at _ _) | ((with_reducible apply alloc_at'); (simp; done)) | (with_reducible apply alloc_at_lt) | (with_reducible apply heap_drew_at) | (with_reducible apply heap_drewN_at) | (with_reducible apply heap_setCell_same) | ((with_reducible apply heap_set_ne); (first | omega | (dsimp only; omega) | (simp; done) | (simp; omega))) | (with_reducible apply setRow_at) | ((with_reducible apply setRow_ne); (first | omega | (dsimp only; omega) | (simp; done) | (simp; omega))))))
              have Z4 : w4.heap[w.heap.size + 1 + 1]? = some (.cells #[.int .u64 0, .int .u64 0] 48 (0, 0)) := below_at hb4 (by first | omega | (simp; done) | (simp; omega)) (by (repeat (first | (with_reducible assumption) | (with_reducible exact alloc_at _ _) | ((with_reducible apply alloc_at'); (simp; done)) | (with_reducible apply alloc_at_lt) | (with_reducible apply heap_drew_at) | (with_reducible apply heap_drewN_at) | (with_reducible apply heap_setCell_same) | ((with_reducible apply heap_set_ne); (first | omega | (dsimp only; omega) | (simp; done) | (simp; omega))) | (with_reducible apply setRow_at) | ((with_reducible apply setRow_ne); (first | omega | (dsimp only; omega) | (simp; done) | (simp; omega))))))
              have G4 : w4.heap[wo.heap.size]? = some (.cells #[.int .u64 g0, .int .u64 g1] 48 (0, 0)) := below_at hb4 (by first | omega | (simp; done) | (simp; omega)) (by (repeat (first | (with_reducible assumption) | (with_reducible exact alloc_at _ _) | ((with_reducible apply alloc_at'); (simp; done)) | (with_reducible apply alloc_at_lt) | (with_reducible apply heap_drew_at) | (with_reducible apply heap_drewN_at) | (with_reducible apply heap_setCell_same) | ((with_reducible apply heap_set_ne); (first | omega | (dsimp only; omega) | (simp; done) | (simp; omega))) | (with_reducible apply setRow_at) | ((with_reducible apply setRow_ne); (first | omega | (dsimp only; omega) | (simp; done) | (simp; omega))))))
              have R4 : w4.heap[w3.heap.size]? = some (.cells #[.int .u64 r0, .int .u64 r1] 48 (0, 0)) := below_at hb4 (by first | omega | (simp; done) | (simp; omega)) (by (repeat (first | (with_reducible assumption) | (with_reducible exact alloc_at _ _) | ((with_reducible apply alloc_at'); (simp; done)) | (with_reducible apply alloc_at_lt) | (with_reducible apply heap_drew_at) | (with_reducible apply heap_drewN_at) | (with_reducible apply heap_setCell_same) | ((with_reducible apply heap_set_ne); (first | omega | (dsimp only; omega) | (simp; done) | (simp; omega))) | (with_reducible apply setRow_at) | ((with_reducible apply setRow_ne); (first | omega | (dsimp only; omega) | (simp; done) | (simp; omega))))))
              have B4 : Below w.heap.size w w4 := Below.trans (by repeat (first | with_reducible assumption | with_reducible exact Below.refl _ _ | with_reducible refine Below.drew ?_ | with_reducible refine below_drewN ?_ _ | with_reducible refine below_alloc ?_ _ | with_reducible refine Below.alloc ?_ (by first | omega | (simp; done) | (simp; omega)) _ | with_reducible refine Below.setCell ?_ (by first | omega | (simp; done) | (simp; omega)) _ | with_reducible refine below_setRow ?_ (by first | omega | (simp; done) | (simp; omega)) _)) (hb4.mono (by first | omega | (simp; done) | (simp; omega)))
              clear hb4 X3 Y3 Z3 G3 G0 G1 Gf
              obtain ⟨G0, G1, Gf⟩ := two G4
              obtain ⟨R0, R1, Rf⟩ := two R4
              have k2 : wo.heap.size < w4.heap.size := by omega
              have k3 : w3.heap.size < w4.heap.size := by omega
              have k4 : w.heap.size + 1 + 1 < wo.heap.size := hso
              by_cases hc0 : 0 < cz
              · have hlt : n * c' < c * m := HT.out.1 hc0
                have HL := hid hlt
                clear hlt
                go_wp2
                go_roundw
                case rel =>
                  refine ⟨3, c, c', r0, r1, by go_num, by omega, by omega, by omega, by have := HQ.out; omega, by omega, by unfold Hid; rw [HN.out, stp_up HQ.out HL.out], HR.out, (by repeat (first | with_reducible assumption | with_reducible exact Below.refl _ _ | with_reducible refine Below.drew ?_ | with_reducible refine below_drewN ?_ _ | with_reducible refine below_alloc ?_ _ | with_reducible refine Below.alloc ?_ (by first | omega | (simp; done) | (simp; omega)) _ | with_reducible refine Below.setCell ?_ (by first | omega | (simp; done) | (simp; omega)) _ | with_reducible refine below_setRow ?_ (by first | omega | (simp; done) | (simp; omega)) _)), (by (repeat (first | (with_reducible assumption) | (with_reducible exact alloc_at _ _) | ((with_reducible apply alloc_at'); (simp; done)) | (with_reducible apply alloc_at_lt) | (with_reducible apply heap_drew_at) | (with_reducible apply heap_drewN_at) | (with_reducible apply heap_setCell_same) | ((with_reducible apply heap_set_ne); (first | omega | (dsimp only; omega) | (simp; done) | (simp; omega))) | (with_reducible apply setRow_at) | ((with_reducible apply setRow_ne); (first | omega | (dsimp only; omega) | (simp; done) | (simp; omega)))))), (by (repeat (first | (with_reducible assumption) | (with_reducible exact alloc_at _ _) | ((with_reducible apply alloc_at'); (simp; done)) | (with_reducible apply alloc_at_lt) | (with_reducible apply heap_drew_at) | (with_reducible apply heap_drewN_at) | (with_reducible apply heap_setCell_same) | ((with_reducible apply heap_set_ne); (first | omega | (dsimp only; omega) | (simp; done) | (simp; omega))) | (with_reducible apply setRow_at) | ((with_reducible apply setRow_ne); (first | omega | (dsimp only; omega) | (simp; done) | (simp; omega)))))), (by (repeat (first | (with_reducible assumption) | (with_reducible exact alloc_at _ _) | ((with_reducible apply alloc_at'); (simp; done)) | (with_reducible apply alloc_at_lt) | (with_reducible apply heap_drew_at) | (with_reducible apply heap_drewN_at) | (with_reducible apply heap_setCell_same) | ((with_reducible apply heap_set_ne); (first | omega | (dsimp only; omega) | (simp; done) | (simp; omega))) | (with_reducible apply setRow_at) | ((with_reducible apply setRow_ne); (first | omega | (dsimp only; omega) | (simp; done) | (simp; omega)))))), ?_, by simp; omega⟩
                  have := heap_setCell_same _ _ 1 _ _ (.int .u64 r1) (heap_setCell_same _ _ 0 _ _ (.int .u64 r0) G4)
                  simpa using this
                case measure => simp [intOf]
              · have hlt : ¬ n * c' < c * m := fun h => hc0 (HT.out.2 h)
                have HL := hid hlt
                have hc1 : cz ≤ 0 := by omega
                clear hlt hc0
                go_wp2
                go_roundw
                case rel => exact ⟨3, n, m, g0, g1, by go_num, by omega, n0, n1, m0, m1, by unfold Hid; rw [HN.out, stp_no (s := (n, m)) HQ.out (by have h := HL.out; simp only; omega)], hnw, B4, X4, Y4, Z4, G4, by omega⟩
                case measure => simp [intOf]
          · have hnext : bk a b c d a' b' c' d' 4 = stp (bk a b c d a' b' c' d' 3) d d' := rfl
            rw [hbk.out] at hnext
            have HN := hid hnext
            clear hnext hbk
            by_cases hz : d' = 0
            · have hq : (d' == 0) = true := by simp [hz]
              have HQ := hid hz
              clear hz
              go_wp2
              go_roundw
              case rel => exact ⟨4, n, m, g0, g1, by go_num, by omega, n0, n1, m0, m1, by unfold Hid; rw [HN.out, HQ.out, stp_zero], hnw, hB, HX.out, HY.out, HZ.out, HG.out, hsz⟩
              case measure => simp [intOf]
            · have hq : (d' == 0) = false := by simpa using hz
              have q2 := prod_le (x := d') (y := wt) (m := 1099511627776) (n := 1000) (by omega) (by omega) (by omega) (by omega)
              have q3 : 0 < d' * wt := Int.mul_pos (by omega) (by omega)
              obtain ⟨q4, q5⟩ := q2
              have hnew : ∀ W, Calls Try.prog 31 #[.int .u64 d, .int .u64 (d' * wt)] W fun e w' => e = .returned (.tuple #[.agg #[.int .u64 (newR d (d' * wt)).1.1, .int .u64 (newR d (d' * wt)).1.2], .int .i64 (newR d (d' * wt)).2]) ∧ Below W.heap.size W w' := fun W => new_any d (d' * wt) W (by omega) (by omega) (by omega) (by omega)
              have hcz : cmpR (newR d (d' * wt)).1.1 (newR d (d' * wt)).1.2 g0 g1 = (cmpZ (d * m) (n * d'), 0) := by
                have h := cmp_new d (d' * wt) n (m * wt) q3 q0.out
                rw [hnw.out, cmp_weight _ _ _ _ _ (by omega)] at h
                exact h
              have rb := newR_bd (n := d) (d := d' * wt) (by omega) q3
              obtain ⟨⟨⟨r0, r1⟩, r2⟩, hr⟩ : ∃ r, newR d (d' * wt) = r := ⟨_, rfl⟩
              rw [hr] at hnew hcz rb
              simp only at hnew hcz rb
              obtain ⟨rb0, rb1, rb2, rb3, rfl⟩ := rb
              have rb4 : r0 ≤ 1099511627776 := by omega
              have rb5 : r1 ≤ 1099511627776000 := by omega
              have hcmp : ∀ W, Calls Try.prog 32 #[.agg #[.int .u64 r0, .int .u64 r1], .agg #[.int .u64 g0, .int .u64 g1]] W fun e w' => e = .returned (.tuple #[.int .i64 (cmpZ (d * m) (n * d')), .int .i64 0]) ∧ Below W.heap.size W w' := fun W => by
                have h := cmpR_any r0 r1 g0 g1 W rb0 (by omega) rb2 (by omega) gb0 (by omega) gb2 (by omega)
                rw [hcz] at h
                exact h
              have hgt := @cmpZ_gt (d * m) (n * d')
              have HQ := hid hz
              have HR := hid hr
              have HW := hid hnew
              have HC := hid hcmp
              clear hz hr hnew hcmp hcz rb1 rb3
              generalize cmpZ (d * m) (n * d') = cz at *
              have HT := hid hgt
              clear hgt
              go_wp2_with fail
              refine (HW.out _).mono ?_
              rintro e w3 ⟨rfl, hb3⟩
              have X2 := HX.out
              have Y2 := HY.out
              have Z2 := HZ.out
              have G2 := HG.out
              have hs3 := hb3.size
              try simp only [World.size_alloc] at hs3
              have X3 : w3.heap[w.heap.size]? = some (.cells #[.int .i64 a, .int .i64 b, .int .i64 c, .int .i64 d] 23 (0, 0)) := below_at hb3 (by first | omega | (simp; done) | (simp; omega)) (by (repeat (first | (with_reducible assumption) | (with_reducible exact alloc_at _ _) | ((with_reducible apply alloc_at'); (simp; done)) | (with_reducible apply alloc_at_lt) | (with_reducible apply heap_drew_at) | (with_reducible apply heap_drewN_at) | (with_reducible apply heap_setCell_same) | ((with_reducible apply heap_set_ne); (first | omega | (dsimp only; omega) | (simp; done) | (simp; omega))) | (with_reducible apply setRow_at) | ((with_reducible apply setRow_ne); (first | omega | (dsimp only; omega) | (simp; done) | (simp; omega))))))
              have Y3 : w3.heap[w.heap.size + 1]? = some (.cells #[.int .i64 a', .int .i64 b', .int .i64 c', .int .i64 d'] 23 (0, 0)) := below_at hb3 (by first | omega | (simp; done) | (simp; omega)) (by (repeat (first | (with_reducible assumption) | (with_reducible exact alloc_at _ _) | ((with_reducible apply alloc_at'); (simp; done)) | (with_reducible apply alloc_at_lt) | (with_reducible apply heap_drew_at) | (with_reducible apply heap_drewN_at) | (with_reducible apply heap_setCell_same) | ((with_reducible apply heap_set_ne); (first | omega | (dsimp only; omega) | (simp; done) | (simp; omega))) | (with_reducible apply setRow_at) | ((with_reducible apply setRow_ne); (first | omega | (dsimp only; omega) | (simp; done) | (simp; omega))))))
              have Z3 : w3.heap[w.heap.size + 1 + 1]? = some (.cells #[.int .u64 0, .int .u64 0] 48 (0, 0)) := below_at hb3 (by first | omega | (simp; done) | (simp; omega)) (by (repeat (first | (with_reducible assumption) | (with_reducible exact alloc_at _ _) | ((with_reducible apply alloc_at'); (simp; done)) | (with_reducible apply alloc_at_lt) | (with_reducible apply heap_drew_at) | (with_reducible apply heap_drewN_at) | (with_reducible apply heap_setCell_same) | ((with_reducible apply heap_set_ne); (first | omega | (dsimp only; omega) | (simp; done) | (simp; omega))) | (with_reducible apply setRow_at) | ((with_reducible apply setRow_ne); (first | omega | (dsimp only; omega) | (simp; done) | (simp; omega))))))
              have G3 : w3.heap[wo.heap.size]? = some (.cells #[.int .u64 g0, .int .u64 g1] 48 (0, 0)) := below_at hb3 (by first | omega | (simp; done) | (simp; omega)) (by (repeat (first | (with_reducible assumption) | (with_reducible exact alloc_at _ _) | ((with_reducible apply alloc_at'); (simp; done)) | (with_reducible apply alloc_at_lt) | (with_reducible apply heap_drew_at) | (with_reducible apply heap_drewN_at) | (with_reducible apply heap_setCell_same) | ((with_reducible apply heap_set_ne); (first | omega | (dsimp only; omega) | (simp; done) | (simp; omega))) | (with_reducible apply setRow_at) | ((with_reducible apply setRow_ne); (first | omega | (dsimp only; omega) | (simp; done) | (simp; omega))))))
              have B3 : Below w.heap.size w w3 := Below.trans hB (hb3.mono (by omega))
              clear hb3 X2 Y2 Z2 G2 HX HY HZ HG x0 x1 x2 x3 xf y0 y1 y2 y3 yf z0 z1 zf G0 G1 Gf
              obtain ⟨G0, G1, Gf⟩ := two G3
              have k1 : wo.heap.size < w3.heap.size := by omega
              go_wp2_with fail
              refine (HC.out _).mono ?_
              rintro e w4 ⟨rfl, hb4⟩
              have hs4 := hb4.size
              try simp only [World.size_alloc] at hs4
              have X4 : w4.heap[w.heap.size]? = some (.cells #[.int .i64 a, .int .i64 b, .int .i64 c, .int .i64 d] 23 (0, 0)) := below_at hb4 (by first | omega | (simp; done) | (simp; omega)) (by (repeat (first | (with_reducible assumption) | (with_reducible exact alloc_at _ _) | ((with_reducible apply alloc_at'); (simp; done)) | (with_reducible apply alloc_at_lt) | (with_reducible apply heap_drew_at) | (with_reducible apply heap_drewN_at) | (with_reducible apply heap_setCell_same) | ((with_reducible apply heap_set_ne); (first | omega | (dsimp only; omega) | (simp; done) | (simp; omega))) | (with_reducible apply setRow_at) | ((with_reducible apply setRow_ne); (first | omega | (dsimp only; omega) | (simp; done) | (simp; omega))))))
              have Y4 : w4.heap[w.heap.size + 1]? = some (.cells #[.int .i64 a', .int .i64 b', .int .i64 c', .int .i64 d'] 23 (0, 0)) := below_at hb4 (by first | omega | (simp; done) | (simp; omega)) (by (repeat (first | (with_reducible assumption) | (with_reducible exact alloc_at _ _) | ((with_reducible apply alloc_at'); (simp; done)) | (with_reducible apply alloc_at_lt) | (with_reducible apply heap_drew_at) | (with_reducible apply heap_drewN_at) | (with_reducible apply heap_setCell_same) | ((with_reducible apply heap_set_ne); (first | omega | (dsimp only; omega) | (simp; done) | (simp; omega))) | (with_reducible apply setRow_at) | ((with_reducible apply setRow_ne); (first | omega | (dsimp only; omega) | (simp; done) | (simp; omega))))))
              have Z4 : w4.heap[w.heap.size + 1 + 1]? = some (.cells #[.int .u64 0, .int .u64 0] 48 (0, 0)) := below_at hb4 (by first | omega | (simp; done) | (simp; omega)) (by (repeat (first | (with_reducible assumption) | (with_reducible exact alloc_at _ _) | ((with_reducible apply alloc_at'); (simp; done)) | (with_reducible apply alloc_at_lt) | (with_reducible apply heap_drew_at) | (with_reducible apply heap_drewN_at) | (with_reducible apply heap_setCell_same) | ((with_reducible apply heap_set_ne); (first | omega | (dsimp only; omega) | (simp; done) | (simp; omega))) | (with_reducible apply setRow_at) | ((with_reducible apply setRow_ne); (first | omega | (dsimp only; omega) | (simp; done) | (simp; omega))))))
              have G4 : w4.heap[wo.heap.size]? = some (.cells #[.int .u64 g0, .int .u64 g1] 48 (0, 0)) := below_at hb4 (by first | omega | (simp; done) | (simp; omega)) (by (repeat (first | (with_reducible assumption) | (with_reducible exact alloc_at _ _) | ((with_reducible apply alloc_at'); (simp; done)) | (with_reducible apply alloc_at_lt) | (with_reducible apply heap_drew_at) | (with_reducible apply heap_drewN_at) | (with_reducible apply heap_setCell_same) | ((with_reducible apply heap_set_ne); (first | omega | (dsimp only; omega) | (simp; done) | (simp; omega))) | (with_reducible apply setRow_at) | ((with_reducible apply setRow_ne); (first | omega | (dsimp only; omega) | (simp; done) | (simp; omega))))))
              have R4 : w4.heap[w3.heap.size]? = some (.cells #[.int .u64 r0, .int .u64 r1] 48 (0, 0)) := below_at hb4 (by first | omega | (simp; done) | (simp; omega)) (by (repeat (first | (with_reducible assumption) | (with_reducible exact alloc_at _ _) | ((with_reducible apply alloc_at'); (simp; done)) | (with_reducible apply alloc_at_lt) | (with_reducible apply heap_drew_at) | (with_reducible apply heap_drewN_at) | (with_reducible apply heap_setCell_same) | ((with_reducible apply heap_set_ne); (first | omega | (dsimp only; omega) | (simp; done) | (simp; omega))) | (with_reducible apply setRow_at) | ((with_reducible apply setRow_ne); (first | omega | (dsimp only; omega) | (simp; done) | (simp; omega))))))
              have B4 : Below w.heap.size w w4 := Below.trans (by repeat (first | with_reducible assumption | with_reducible exact Below.refl _ _ | with_reducible refine Below.drew ?_ | with_reducible refine below_drewN ?_ _ | with_reducible refine below_alloc ?_ _ | with_reducible refine Below.alloc ?_ (by first | omega | (simp; done) | (simp; omega)) _ | with_reducible refine Below.setCell ?_ (by first | omega | (simp; done) | (simp; omega)) _ | with_reducible refine below_setRow ?_ (by first | omega | (simp; done) | (simp; omega)) _)) (hb4.mono (by first | omega | (simp; done) | (simp; omega)))
              clear hb4 X3 Y3 Z3 G3 G0 G1 Gf
              obtain ⟨G0, G1, Gf⟩ := two G4
              obtain ⟨R0, R1, Rf⟩ := two R4
              have k2 : wo.heap.size < w4.heap.size := by omega
              have k3 : w3.heap.size < w4.heap.size := by omega
              have k4 : w.heap.size + 1 + 1 < wo.heap.size := hso
              by_cases hc0 : 0 < cz
              · have hlt : n * d' < d * m := HT.out.1 hc0
                have HL := hid hlt
                clear hlt
                go_wp2
                go_roundw
                case rel =>
                  refine ⟨4, d, d', r0, r1, by go_num, by omega, by omega, by omega, by have := HQ.out; omega, by omega, by unfold Hid; rw [HN.out, stp_up HQ.out HL.out], HR.out, (by repeat (first | with_reducible assumption | with_reducible exact Below.refl _ _ | with_reducible refine Below.drew ?_ | with_reducible refine below_drewN ?_ _ | with_reducible refine below_alloc ?_ _ | with_reducible refine Below.alloc ?_ (by first | omega | (simp; done) | (simp; omega)) _ | with_reducible refine Below.setCell ?_ (by first | omega | (simp; done) | (simp; omega)) _ | with_reducible refine below_setRow ?_ (by first | omega | (simp; done) | (simp; omega)) _)), (by (repeat (first | (with_reducible assumption) | (with_reducible exact alloc_at _ _) | ((with_reducible apply alloc_at'); (simp; done)) | (with_reducible apply alloc_at_lt) | (with_reducible apply heap_drew_at) | (with_reducible apply heap_drewN_at) | (with_reducible apply heap_setCell_same) | ((with_reducible apply heap_set_ne); (first | omega | (dsimp only; omega) | (simp; done) | (simp; omega))) | (with_reducible apply setRow_at) | ((with_reducible apply setRow_ne); (first | omega | (dsimp only; omega) | (simp; done) | (simp; omega)))))), (by (repeat (first | (with_reducible assumption) | (with_reducible exact alloc_at _ _) | ((with_reducible apply alloc_at'); (simp; done)) | (with_reducible apply alloc_at_lt) | (with_reducible apply heap_drew_at) | (with_reducible apply heap_drewN_at) | (with_reducible apply heap_setCell_same) | ((with_reducible apply heap_set_ne); (first | omega | (dsimp only; omega) | (simp; done) | (simp; omega))) | (with_reducible apply setRow_at) | ((with_reducible apply setRow_ne); (first | omega | (dsimp only; omega) | (simp; done) | (simp; omega)))))), (by (repeat (first | (with_reducible assumption) | (with_reducible exact alloc_at _ _) | ((with_reducible apply alloc_at'); (simp; done)) | (with_reducible apply alloc_at_lt) | (with_reducible apply heap_drew_at) | (with_reducible apply heap_drewN_at) | (with_reducible apply heap_setCell_same) | ((with_reducible apply heap_set_ne); (first | omega | (dsimp only; omega) | (simp; done) | (simp; omega))) | (with_reducible apply setRow_at) | ((with_reducible apply setRow_ne); (first | omega | (dsimp only; omega) | (simp; done) | (simp; omega)))))), ?_, by simp; omega⟩
                  have := heap_setCell_same _ _ 1 _ _ (.int .u64 r1) (heap_setCell_same _ _ 0 _ _ (.int .u64 r0) G4)
                  simpa using this
                case measure => simp [intOf]
              · have hlt : ¬ n * d' < d * m := fun h => hc0 (HT.out.2 h)
                have HL := hid hlt
                have hc1 : cz ≤ 0 := by omega
                clear hlt hc0
                go_wp2
                go_roundw
                case rel => exact ⟨4, n, m, g0, g1, by go_num, by omega, n0, n1, m0, m1, by unfold Hid; rw [HN.out, stp_no (s := (n, m)) HQ.out (by have h := HL.out; simp only; omega)], hnw, B4, X4, Y4, Z4, G4, by omega⟩
                case measure => simp [intOf]
          · have hbest : best a b c d a' b' c' d' = (n, m) := hbk.out
            have HB := hid hbest
            clear hbest hbk
            rw [HB.out] at E
            have hwz : w.heap.size + 1 + 1 ≠ wo.heap.size := by omega
            have hwz2 : wo.heap.size ≠ w.heap.size + 1 + 1 := by omega
            go_wp2
            have hZ := HZ.out
            refine ret_row2 rfl (w.heap.size + 1 + 1) #[.int .u64 g0, .int .u64 g1] 48 _ rfl Try.underlying48 rfl infoR rfl (by apply Exists.intro; refine ⟨?_, ?_⟩; (focus ((repeat (first | (with_reducible assumption) | (with_reducible exact alloc_at _ _) | ((with_reducible apply alloc_at'); (simp; done)) | (with_reducible apply alloc_at_lt) | (with_reducible apply heap_drew_at) | (with_reducible apply heap_drewN_at) | (with_reducible apply heap_setCell_same) | ((with_reducible apply heap_set_ne); (first | omega | (dsimp only; omega) | (simp; done) | (simp; omega))) | (with_reducible apply setRow_at) | ((with_reducible apply setRow_ne); (first | omega | (dsimp only; omega) | (simp; done) | (simp; omega))))))); simp) ⟨?_, (by repeat (first | with_reducible assumption | with_reducible exact Below.refl _ _ | with_reducible refine Below.drew ?_ | with_reducible refine below_drewN ?_ _ | with_reducible refine below_alloc ?_ _ | with_reducible refine Below.alloc ?_ (by first | omega | (simp; done) | (simp; omega)) _ | with_reducible refine Below.setCell ?_ (by first | omega | (simp; done) | (simp; omega)) _ | with_reducible refine below_setRow ?_ (by first | omega | (simp; done) | (simp; omega)) _))⟩
            rw [E.out]
            show _ = Ending.returned (.tuple #[.agg #[.int .u64 (newR n (m * wt)).1.1, .int .u64 (newR n (m * wt)).1.2], .int .i64 (newR n (m * wt)).2])
            rw [hnw.out]; rfl
    · have hy' : formedB a' b' c' d' = false := by simpa using hy
      have E := hid (shareR_form (wt := wt) (show (formedB a b c d && formedB a' b' c' d') = false by rw [hx, hy']; rfl))
      clear hy
      skip
      go_enter Try.func17, Try.ntmps17
      go_wp2_with fail
      refine (formed_any _ _ _ _ _).mono ?_
      rintro e w1 ⟨rfl, hb1⟩
      have hs1 := hb1.size
      simp only [World.size_alloc] at hs1
      have X1 : w1.heap[w.heap.size]? = some (.cells #[.int .i64 a, .int .i64 b, .int .i64 c, .int .i64 d] 23 (0, 0)) := below_at hb1 (by first | omega | (simp; done) | (simp; omega)) (by (repeat (first | (with_reducible assumption) | (with_reducible exact alloc_at _ _) | ((with_reducible apply alloc_at'); (simp; done)) | (with_reducible apply alloc_at_lt) | (with_reducible apply heap_drew_at) | (with_reducible apply heap_drewN_at) | (with_reducible apply heap_setCell_same) | ((with_reducible apply heap_set_ne); (first | omega | (dsimp only; omega) | (simp; done) | (simp; omega))) | (with_reducible apply setRow_at) | ((with_reducible apply setRow_ne); (first | omega | (dsimp only; omega) | (simp; done) | (simp; omega))))))
      have Y1 : w1.heap[w.heap.size + 1]? = some (.cells #[.int .i64 a', .int .i64 b', .int .i64 c', .int .i64 d'] 23 (0, 0)) := below_at hb1 (by first | omega | (simp; done) | (simp; omega)) (by (repeat (first | (with_reducible assumption) | (with_reducible exact alloc_at _ _) | ((with_reducible apply alloc_at'); (simp; done)) | (with_reducible apply alloc_at_lt) | (with_reducible apply heap_drew_at) | (with_reducible apply heap_drewN_at) | (with_reducible apply heap_setCell_same) | ((with_reducible apply heap_set_ne); (first | omega | (dsimp only; omega) | (simp; done) | (simp; omega))) | (with_reducible apply setRow_at) | ((with_reducible apply setRow_ne); (first | omega | (dsimp only; omega) | (simp; done) | (simp; omega))))))
      have Z1 : w1.heap[w.heap.size + 1 + 1]? = some (.cells #[.int .u64 0, .int .u64 0] 48 (0, 0)) := below_at hb1 (by first | omega | (simp; done) | (simp; omega)) (by (repeat (first | (with_reducible assumption) | (with_reducible exact alloc_at _ _) | ((with_reducible apply alloc_at'); (simp; done)) | (with_reducible apply alloc_at_lt) | (with_reducible apply heap_drew_at) | (with_reducible apply heap_drewN_at) | (with_reducible apply heap_setCell_same) | ((with_reducible apply heap_set_ne); (first | omega | (dsimp only; omega) | (simp; done) | (simp; omega))) | (with_reducible apply setRow_at) | ((with_reducible apply setRow_ne); (first | omega | (dsimp only; omega) | (simp; done) | (simp; omega))))))
      have B1 : Below w.heap.size w w1 := Below.trans (by repeat (first | with_reducible assumption | with_reducible exact Below.refl _ _ | with_reducible refine Below.drew ?_ | with_reducible refine below_drewN ?_ _ | with_reducible refine below_alloc ?_ _ | with_reducible refine Below.alloc ?_ (by first | omega | (simp; done) | (simp; omega)) _ | with_reducible refine Below.setCell ?_ (by first | omega | (simp; done) | (simp; omega)) _ | with_reducible refine below_setRow ?_ (by first | omega | (simp; done) | (simp; omega)) _)) (hb1.mono (by first | omega | (simp; done) | (simp; omega)))
      clear hb1
      obtain ⟨x0, x1, x2, x3, xf⟩ := four X1
      obtain ⟨y0, y1, y2, y3, yf⟩ := four Y1
      obtain ⟨z0, z1, zf⟩ := two Z1
      go_wp2_with fail
      refine (formed_any _ _ _ _ _).mono ?_
      rintro e w2 ⟨rfl, hb2⟩
      have hs2 := hb2.size
      have X2 := below_at hb2 (n := w.heap.size) (by omega) X1
      have Y2 := below_at hb2 (n := w.heap.size + 1) (by omega) Y1
      have Z2 := below_at hb2 (n := w.heap.size + 1 + 1) (by omega) Z1
      have B2 : Below w.heap.size w w2 := Below.trans B1 (hb2.mono (by omega))
      clear hb2 X1 Y1 Z1 x0 x1 x2 x3 xf y0 y1 y2 y3 yf z0 z1 zf
      obtain ⟨x0, x1, x2, x3, xf⟩ := four X2
      obtain ⟨y0, y1, y2, y3, yf⟩ := four Y2
      obtain ⟨z0, z1, zf⟩ := two Z2
      have u0 : w.heap.size < w2.heap.size := by omega
      have u1 : w.heap.size + 1 < w2.heap.size := by omega
      have u2 : w.heap.size + 1 + 1 < w2.heap.size := by omega
      go_wp2
      refine ret_row2 rfl (w.heap.size + 1 + 1) #[.int .u64 0, .int .u64 0] 48 _ rfl Try.underlying48 rfl infoR rfl (by apply Exists.intro; refine ⟨?_, ?_⟩; (focus ((repeat (first | (with_reducible assumption) | (with_reducible exact alloc_at _ _) | ((with_reducible apply alloc_at'); (simp; done)) | (with_reducible apply alloc_at_lt) | (with_reducible apply heap_drew_at) | (with_reducible apply heap_drewN_at) | (with_reducible apply heap_setCell_same) | ((with_reducible apply heap_set_ne); (first | omega | (dsimp only; omega) | (simp; done) | (simp; omega))) | (with_reducible apply setRow_at) | ((with_reducible apply setRow_ne); (first | omega | (dsimp only; omega) | (simp; done) | (simp; omega))))))); simp) ⟨?_, (by repeat (first | with_reducible assumption | with_reducible exact Below.refl _ _ | with_reducible refine Below.drew ?_ | with_reducible refine below_drewN ?_ _ | with_reducible refine below_alloc ?_ _ | with_reducible refine Below.alloc ?_ (by first | omega | (simp; done) | (simp; omega)) _ | with_reducible refine Below.setCell ?_ (by first | omega | (simp; done) | (simp; omega)) _ | with_reducible refine below_setRow ?_ (by first | omega | (simp; done) | (simp; omega)) _))⟩
      rw [E.out]; rfl
  · have hx' : formedB a b c d = false := by simpa using hx
    have E := hid (shareR_form (wt := wt) (show (formedB a b c d && formedB a' b' c' d') = false by rw [hx']; rfl))
    clear hx
    skip
    go_enter Try.func17, Try.ntmps17
    go_wp2_with fail
    refine (formed_any _ _ _ _ _).mono ?_
    rintro e w1 ⟨rfl, hb1⟩
    have hs1 := hb1.size
    simp only [World.size_alloc] at hs1
    have X1 : w1.heap[w.heap.size]? = some (.cells #[.int .i64 a, .int .i64 b, .int .i64 c, .int .i64 d] 23 (0, 0)) := below_at hb1 (by first | omega | (simp; done) | (simp; omega)) (by (repeat (first | (with_reducible assumption) | (with_reducible exact alloc_at _ _) | ((with_reducible apply alloc_at'); (simp; done)) | (with_reducible apply alloc_at_lt) | (with_reducible apply heap_drew_at) | (with_reducible apply heap_drewN_at) | (with_reducible apply heap_setCell_same) | ((with_reducible apply heap_set_ne); (first | omega | (dsimp only; omega) | (simp; done) | (simp; omega))) | (with_reducible apply setRow_at) | ((with_reducible apply setRow_ne); (first | omega | (dsimp only; omega) | (simp; done) | (simp; omega))))))
    have Y1 : w1.heap[w.heap.size + 1]? = some (.cells #[.int .i64 a', .int .i64 b', .int .i64 c', .int .i64 d'] 23 (0, 0)) := below_at hb1 (by first | omega | (simp; done) | (simp; omega)) (by (repeat (first | (with_reducible assumption) | (with_reducible exact alloc_at _ _) | ((with_reducible apply alloc_at'); (simp; done)) | (with_reducible apply alloc_at_lt) | (with_reducible apply heap_drew_at) | (with_reducible apply heap_drewN_at) | (with_reducible apply heap_setCell_same) | ((with_reducible apply heap_set_ne); (first | omega | (dsimp only; omega) | (simp; done) | (simp; omega))) | (with_reducible apply setRow_at) | ((with_reducible apply setRow_ne); (first | omega | (dsimp only; omega) | (simp; done) | (simp; omega))))))
    have Z1 : w1.heap[w.heap.size + 1 + 1]? = some (.cells #[.int .u64 0, .int .u64 0] 48 (0, 0)) := below_at hb1 (by first | omega | (simp; done) | (simp; omega)) (by (repeat (first | (with_reducible assumption) | (with_reducible exact alloc_at _ _) | ((with_reducible apply alloc_at'); (simp; done)) | (with_reducible apply alloc_at_lt) | (with_reducible apply heap_drew_at) | (with_reducible apply heap_drewN_at) | (with_reducible apply heap_setCell_same) | ((with_reducible apply heap_set_ne); (first | omega | (dsimp only; omega) | (simp; done) | (simp; omega))) | (with_reducible apply setRow_at) | ((with_reducible apply setRow_ne); (first | omega | (dsimp only; omega) | (simp; done) | (simp; omega))))))
    have B1 : Below w.heap.size w w1 := Below.trans (by repeat (first | with_reducible assumption | with_reducible exact Below.refl _ _ | with_reducible refine Below.drew ?_ | with_reducible refine below_drewN ?_ _ | with_reducible refine below_alloc ?_ _ | with_reducible refine Below.alloc ?_ (by first | omega | (simp; done) | (simp; omega)) _ | with_reducible refine Below.setCell ?_ (by first | omega | (simp; done) | (simp; omega)) _ | with_reducible refine below_setRow ?_ (by first | omega | (simp; done) | (simp; omega)) _)) (hb1.mono (by first | omega | (simp; done) | (simp; omega)))
    clear hb1
    obtain ⟨x0, x1, x2, x3, xf⟩ := four X1
    obtain ⟨y0, y1, y2, y3, yf⟩ := four Y1
    obtain ⟨z0, z1, zf⟩ := two Z1
    go_wp2
    refine ret_row2 rfl (w.heap.size + 1 + 1) #[.int .u64 0, .int .u64 0] 48 _ rfl Try.underlying48 rfl infoR rfl (by apply Exists.intro; refine ⟨?_, ?_⟩; (focus ((repeat (first | (with_reducible assumption) | (with_reducible exact alloc_at _ _) | ((with_reducible apply alloc_at'); (simp; done)) | (with_reducible apply alloc_at_lt) | (with_reducible apply heap_drew_at) | (with_reducible apply heap_drewN_at) | (with_reducible apply heap_setCell_same) | ((with_reducible apply heap_set_ne); (first | omega | (dsimp only; omega) | (simp; done) | (simp; omega))) | (with_reducible apply setRow_at) | ((with_reducible apply setRow_ne); (first | omega | (dsimp only; omega) | (simp; done) | (simp; omega))))))); simp) ⟨?_, (by repeat (first | with_reducible assumption | with_reducible exact Below.refl _ _ | with_reducible refine Below.drew ?_ | with_reducible refine below_drewN ?_ _ | with_reducible refine below_alloc ?_ _ | with_reducible refine Below.alloc ?_ (by first | omega | (simp; done) | (simp; omega)) _ | with_reducible refine Below.setCell ?_ (by first | omega | (simp; done) | (simp; omega)) _ | with_reducible refine below_setRow ?_ (by first | omega | (simp; done) | (simp; omega)) _))⟩
    rw [E.out]; rfl
end Go.Proofs.Yteccpjijlkjneaa
