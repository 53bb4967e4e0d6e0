/- Contracts of chapter 3's Add and Sub, of the program and of the reference, and of the reference's Sum. -/
import Derived.Test.YteccpjijlkjneaaVec2
import Derived.BigRegion
namespace Go.Proofs.Yteccpjijlkjneaa
open Go.RowKit
theorem holdsV_two {w : World} {n : Nat} {a b c d a' b' c' d' : Int} {t : TypeId} {f : Nat × Nat}
    (h : w.heap[n]? = some (.cells #[.int .i64 a, .int .i64 b, .int .i64 c, .int .i64 d, .int .i64 a', .int .i64 b', .int .i64 c', .int .i64 d'] t f)) : HoldsV w n 0 [(a, b, c, d), (a', b', c', d')] := by
  intro j hj
  have hj' : j < 2 := hj
  obtain rfl | rfl : j = 0 ∨ j = 1 := by omega
  · simp [blk_cell h]
  · simp [blk_cell h]
set_option maxHeartbeats 1000000 in
theorem radd_any (a b c d a' b' c' d' : Int) (w : World) :
    Calls Try.prog 14 #[.agg #[.int .i64 a, .int .i64 b, .int .i64 c, .int .i64 d], .agg #[.int .i64 a', .int .i64 b', .int .i64 c', .int .i64 d']] w fun e w' => e = .returned (.tuple #[vv (addR (a, b, c, d) (a', b', c', d')).1, .int .i64 (addR (a, b, c, d) (a', b', c', d')).2]) ∧ Below w.heap.size w w' := by
  by_cases hx : formedB a b c d = true
  · by_cases hy : formedB a' b' c' d' = true
    · have hb := (okV_iff (a, b, c, d)).1 hx
      have hb' := (okV_iff (a', b', c', d')).1 hy
      simp only at hb hb'
      obtain ⟨⟨l0, r0⟩, ⟨l1, r1⟩, ⟨l2, r2⟩, ⟨l3, r3⟩⟩ := hb
      obtain ⟨⟨m0, n0⟩, ⟨m1, n1⟩, ⟨m2, n2⟩, ⟨m3, n3⟩⟩ := hb'
      go_enter Try.func14, Try.ntmps14
      go_wp2_with fail
      refine (rformed_any _ _ _ _ _).mono ?_
      rintro e w1 ⟨rfl, hb1⟩
      have hs1 := hb1.size
      simp only [World.size_alloc] at hs1
      have hx1 := below_at hb1 (n := w.heap.size) (by simp; omega) (by (repeat (first | (with_reducible assumption) | (with_reducible exact alloc_at _ _) | ((with_reducible apply alloc_at'); (simp; done)) | (with_reducible apply alloc_at_lt) | (with_reducible apply heap_drew_at) | (with_reducible apply heap_drewN_at) | (with_reducible apply heap_setCell_same) | ((with_reducible apply heap_set_ne); (first | omega | (dsimp only; omega) | (simp; done) | (simp; omega))) | (with_reducible apply setRow_at) | ((with_reducible apply setRow_ne); (first | omega | (dsimp only; omega) | (simp; done) | (simp; omega))))))
      have hy1 := below_at hb1 (n := w.heap.size + 1) (by simp) (by (repeat (first | (with_reducible assumption) | (with_reducible exact alloc_at _ _) | ((with_reducible apply alloc_at'); (simp; done)) | (with_reducible apply alloc_at_lt) | (with_reducible apply heap_drew_at) | (with_reducible apply heap_drewN_at) | (with_reducible apply heap_setCell_same) | ((with_reducible apply heap_set_ne); (first | omega | (dsimp only; omega) | (simp; done) | (simp; omega))) | (with_reducible apply setRow_at) | ((with_reducible apply setRow_ne); (first | omega | (dsimp only; omega) | (simp; done) | (simp; omega))))))
      have hz1 := below_at hb1 (n := w.heap.size + 1 + 1) (by simp) (by (repeat (first | (with_reducible assumption) | (with_reducible exact alloc_at _ _) | ((with_reducible apply alloc_at'); (simp; done)) | (with_reducible apply alloc_at_lt) | (with_reducible apply heap_drew_at) | (with_reducible apply heap_drewN_at) | (with_reducible apply heap_setCell_same) | ((with_reducible apply heap_set_ne); (first | omega | (dsimp only; omega) | (simp; done) | (simp; omega))) | (with_reducible apply setRow_at) | ((with_reducible apply setRow_ne); (first | omega | (dsimp only; omega) | (simp; done) | (simp; omega))))))
      have hB1 : Below w.heap.size w w1 := Below.trans (by repeat (first | with_reducible assumption | with_reducible exact Below.refl _ _ | with_reducible refine Below.drew ?_ | with_reducible refine below_drewN ?_ _ | with_reducible refine below_alloc ?_ _ | with_reducible refine Below.alloc ?_ (by first | omega | (simp; done) | (simp; omega)) _ | with_reducible refine Below.setCell ?_ (by first | omega | (simp; done) | (simp; omega)) _ | with_reducible refine below_setRow ?_ (by first | omega | (simp; done) | (simp; omega)) _)) (hb1.mono (by simp; omega))
      clear hb1
      obtain ⟨x0, x1, x2, x3, xf⟩ := four hx1
      obtain ⟨y0, y1, y2, y3, yf⟩ := four hy1
      obtain ⟨z0, z1, z2, z3, zf⟩ := four hz1
      have HX := hid hx1
      have HY := hid hy1
      have HZ := hid hz1
      clear hx1 hy1 hz1
      go_wp2_with fail
      refine (rformed_any _ _ _ _ _).mono ?_
      rintro e w2 ⟨rfl, hb2⟩
      have hs2 := hb2.size
      have hx2 := below_at hb2 (n := w.heap.size) (by omega) HX.out
      have hy2 := below_at hb2 (n := w.heap.size + 1) (by omega) HY.out
      have hz2 := below_at hb2 (n := w.heap.size + 1 + 1) (by omega) HZ.out
      have hB2 : Below w.heap.size w w2 := Below.trans (by repeat (first | with_reducible assumption | with_reducible exact Below.refl _ _ | with_reducible refine Below.drew ?_ | with_reducible refine below_drewN ?_ _ | with_reducible refine below_alloc ?_ _ | with_reducible refine Below.alloc ?_ (by first | omega | (simp; done) | (simp; omega)) _ | with_reducible refine Below.setCell ?_ (by first | omega | (simp; done) | (simp; omega)) _ | with_reducible refine below_setRow ?_ (by first | omega | (simp; done) | (simp; omega)) _)) (hb2.mono (by omega))
      clear hb2 HX HY HZ x0 x1 x2 x3 xf y0 y1 y2 y3 yf z0 z1 z2 z3 zf
      obtain ⟨x0, x1, x2, x3, xf⟩ := four hx2
      obtain ⟨y0, y1, y2, y3, yf⟩ := four hy2
      obtain ⟨z0, z1, z2, z3, zf⟩ := four hz2
      have HX := hid hx2
      have HY := hid hy2
      have HZ := hid hz2
      clear hx2 hy2 hz2

      have k1 : w.heap.size < w2.heap.size := by omega
      have k2 : w.heap.size + 1 < w2.heap.size := by omega
      have k3 : w.heap.size + 1 + 1 < w2.heap.size := by omega
      go_wp2
      refine wp_loop_rounds 5 ?_
      iterate 4 (rw [rounds_succ]; go_wp2; go_region; go_wp2)
      rw [rounds_succ]
      go_wp2_with fail
      refine (rformed_any _ _ _ _ _).mono ?_
      rintro e w3 ⟨rfl, hb3⟩
      have hs3 := hb3.size
      simp at hs3
      have hz2 := HZ.out
      have hz3 : w3.heap[w.heap.size + 1 + 1]? = some (.cells #[.int .i64 0, .int .i64 0, .int .i64 0, .int .i64 0] 23 (0, 0)) := below_at hb3 (by simp; omega) (by (repeat (first | (with_reducible assumption) | (with_reducible exact alloc_at _ _) | ((with_reducible apply alloc_at'); (simp; done)) | (with_reducible apply alloc_at_lt) | (with_reducible apply heap_drew_at) | (with_reducible apply heap_drewN_at) | (with_reducible apply heap_setCell_same) | ((with_reducible apply heap_set_ne); (first | omega | (dsimp only; omega) | (simp; done) | (simp; omega))) | (with_reducible apply setRow_at) | ((with_reducible apply setRow_ne); (first | omega | (dsimp only; omega) | (simp; done) | (simp; omega))))))
      have ht3 : w3.heap[w2.heap.size]? = some (.cells #[.int .i64 (a + a'), .int .i64 (b + b'), .int .i64 (c + c'), .int .i64 (d + d')] 23 (0, 0)) := below_at hb3 (by simp) (by (repeat (first | (with_reducible assumption) | (with_reducible exact alloc_at _ _) | ((with_reducible apply alloc_at'); (simp; done)) | (with_reducible apply alloc_at_lt) | (with_reducible apply heap_drew_at) | (with_reducible apply heap_drewN_at) | (with_reducible apply heap_setCell_same) | ((with_reducible apply heap_set_ne); (first | omega | (dsimp only; omega) | (simp; done) | (simp; omega))) | (with_reducible apply setRow_at) | ((with_reducible apply setRow_ne); (first | omega | (dsimp only; omega) | (simp; done) | (simp; omega))))))
      have hB3 : Below w.heap.size w w3 := Below.trans (by repeat (first | with_reducible assumption | with_reducible exact Below.refl _ _ | with_reducible refine Below.drew ?_ | with_reducible refine below_drewN ?_ _ | with_reducible refine below_alloc ?_ _ | with_reducible refine Below.alloc ?_ (by first | omega | (simp; done) | (simp; omega)) _ | with_reducible refine Below.setCell ?_ (by first | omega | (simp; done) | (simp; omega)) _ | with_reducible refine below_setRow ?_ (by first | omega | (simp; done) | (simp; omega)) _)) (hb3.mono (by simp; omega))
      clear hb3 HX HY HZ hz2 x0 x1 x2 x3 xf y0 y1 y2 y3 yf z0 z1 z2 z3 zf
      obtain ⟨z0, z1, z2, z3, zf⟩ := four hz3
      obtain ⟨t0, t1, t2, t3, tf⟩ := four ht3
      have HZ := hid hz3
      clear hz3 ht3
      by_cases ho : formedB (a + a') (b + b') (c + c') (d + d') = true
      · go_wp2
        have hz := HZ.out
        refine ret_row2 rfl (w.heap.size + 1 + 1) #[.int .i64 (a + a'), .int .i64 (b + b'), .int .i64 (c + c'), .int .i64 (d + d')] 23 _ rfl Try.underlying23 rfl infoV rfl (by apply Exists.intro; refine ⟨?_, ?_⟩; (focus ((repeat (first | (with_reducible assumption) | (with_reducible exact alloc_at _ _) | ((with_reducible apply alloc_at'); (simp; done)) | (with_reducible apply alloc_at_lt) | (with_reducible apply heap_drew_at) | (with_reducible apply heap_drewN_at) | (with_reducible apply heap_setCell_same) | ((with_reducible apply heap_set_ne); (first | omega | (dsimp only; omega) | (simp; done) | (simp; omega))) | (with_reducible apply setRow_at) | ((with_reducible apply setRow_ne); (first | omega | (dsimp only; omega) | (simp; done) | (simp; omega))))))); simp) ⟨?_, (by repeat (first | with_reducible assumption | with_reducible exact Below.refl _ _ | with_reducible refine Below.drew ?_ | with_reducible refine below_drewN ?_ _ | with_reducible refine below_alloc ?_ _ | with_reducible refine Below.alloc ?_ (by first | omega | (simp; done) | (simp; omega)) _ | with_reducible refine Below.setCell ?_ (by first | omega | (simp; done) | (simp; omega)) _ | with_reducible refine below_setRow ?_ (by first | omega | (simp; done) | (simp; omega)) _))⟩
        rw [addR_ok (by simpa [okV] using hx) (by simpa [okV] using hy) (by simpa [okV, addV] using ho)]; rfl
      · have ho' : formedB (a + a') (b + b') (c + c') (d + d') = false := by simpa using ho
        clear ho
        go_wp2
        have hz := HZ.out
        refine ret_row2 rfl (w.heap.size + 1 + 1) #[.int .i64 0, .int .i64 0, .int .i64 0, .int .i64 0] 23 _ rfl Try.underlying23 rfl infoV rfl (by apply Exists.intro; refine ⟨?_, ?_⟩; (focus ((repeat (first | (with_reducible assumption) | (with_reducible exact alloc_at _ _) | ((with_reducible apply alloc_at'); (simp; done)) | (with_reducible apply alloc_at_lt) | (with_reducible apply heap_drew_at) | (with_reducible apply heap_drewN_at) | (with_reducible apply heap_setCell_same) | ((with_reducible apply heap_set_ne); (first | omega | (dsimp only; omega) | (simp; done) | (simp; omega))) | (with_reducible apply setRow_at) | ((with_reducible apply setRow_ne); (first | omega | (dsimp only; omega) | (simp; done) | (simp; omega))))))); simp) ⟨?_, (by repeat (first | with_reducible assumption | with_reducible exact Below.refl _ _ | with_reducible refine Below.drew ?_ | with_reducible refine below_drewN ?_ _ | with_reducible refine below_alloc ?_ _ | with_reducible refine Below.alloc ?_ (by first | omega | (simp; done) | (simp; omega)) _ | with_reducible refine Below.setCell ?_ (by first | omega | (simp; done) | (simp; omega)) _ | with_reducible refine below_setRow ?_ (by first | omega | (simp; done) | (simp; omega)) _))⟩
        rw [addR_over (by simpa [okV] using hx) (by simpa [okV] using hy) (by simpa [okV, addV] using ho')]; rfl
    · have hy' : formedB a' b' c' d' = false := by simpa using hy
      clear hy
      go_enter Try.func14, Try.ntmps14
      go_wp2_with fail
      refine (rformed_any _ _ _ _ _).mono ?_
      rintro e w1 ⟨rfl, hb1⟩
      have hs1 := hb1.size
      simp only [World.size_alloc] at hs1
      have hx1 := below_at hb1 (n := w.heap.size) (by simp; omega) (by (repeat (first | (with_reducible assumption) | (with_reducible exact alloc_at _ _) | ((with_reducible apply alloc_at'); (simp; done)) | (with_reducible apply alloc_at_lt) | (with_reducible apply heap_drew_at) | (with_reducible apply heap_drewN_at) | (with_reducible apply heap_setCell_same) | ((with_reducible apply heap_set_ne); (first | omega | (dsimp only; omega) | (simp; done) | (simp; omega))) | (with_reducible apply setRow_at) | ((with_reducible apply setRow_ne); (first | omega | (dsimp only; omega) | (simp; done) | (simp; omega))))))
      have hy1 := below_at hb1 (n := w.heap.size + 1) (by simp) (by (repeat (first | (with_reducible assumption) | (with_reducible exact alloc_at _ _) | ((with_reducible apply alloc_at'); (simp; done)) | (with_reducible apply alloc_at_lt) | (with_reducible apply heap_drew_at) | (with_reducible apply heap_drewN_at) | (with_reducible apply heap_setCell_same) | ((with_reducible apply heap_set_ne); (first | omega | (dsimp only; omega) | (simp; done) | (simp; omega))) | (with_reducible apply setRow_at) | ((with_reducible apply setRow_ne); (first | omega | (dsimp only; omega) | (simp; done) | (simp; omega))))))
      have hz1 := below_at hb1 (n := w.heap.size + 1 + 1) (by simp) (by (repeat (first | (with_reducible assumption) | (with_reducible exact alloc_at _ _) | ((with_reducible apply alloc_at'); (simp; done)) | (with_reducible apply alloc_at_lt) | (with_reducible apply heap_drew_at) | (with_reducible apply heap_drewN_at) | (with_reducible apply heap_setCell_same) | ((with_reducible apply heap_set_ne); (first | omega | (dsimp only; omega) | (simp; done) | (simp; omega))) | (with_reducible apply setRow_at) | ((with_reducible apply setRow_ne); (first | omega | (dsimp only; omega) | (simp; done) | (simp; omega))))))
      have hB1 : Below w.heap.size w w1 := Below.trans (by repeat (first | with_reducible assumption | with_reducible exact Below.refl _ _ | with_reducible refine Below.drew ?_ | with_reducible refine below_drewN ?_ _ | with_reducible refine below_alloc ?_ _ | with_reducible refine Below.alloc ?_ (by first | omega | (simp; done) | (simp; omega)) _ | with_reducible refine Below.setCell ?_ (by first | omega | (simp; done) | (simp; omega)) _ | with_reducible refine below_setRow ?_ (by first | omega | (simp; done) | (simp; omega)) _)) (hb1.mono (by simp; omega))
      clear hb1
      obtain ⟨x0, x1, x2, x3, xf⟩ := four hx1
      obtain ⟨y0, y1, y2, y3, yf⟩ := four hy1
      obtain ⟨z0, z1, z2, z3, zf⟩ := four hz1
      have HX := hid hx1
      have HY := hid hy1
      have HZ := hid hz1
      clear hx1 hy1 hz1
      go_wp2_with fail
      refine (rformed_any _ _ _ _ _).mono ?_
      rintro e w2 ⟨rfl, hb2⟩
      have hs2 := hb2.size
      have hx2 := below_at hb2 (n := w.heap.size) (by omega) HX.out
      have hy2 := below_at hb2 (n := w.heap.size + 1) (by omega) HY.out
      have hz2 := below_at hb2 (n := w.heap.size + 1 + 1) (by omega) HZ.out
      have hB2 : Below w.heap.size w w2 := Below.trans (by repeat (first | with_reducible assumption | with_reducible exact Below.refl _ _ | with_reducible refine Below.drew ?_ | with_reducible refine below_drewN ?_ _ | with_reducible refine below_alloc ?_ _ | with_reducible refine Below.alloc ?_ (by first | omega | (simp; done) | (simp; omega)) _ | with_reducible refine Below.setCell ?_ (by first | omega | (simp; done) | (simp; omega)) _ | with_reducible refine below_setRow ?_ (by first | omega | (simp; done) | (simp; omega)) _)) (hb2.mono (by omega))
      clear hb2 HX HY HZ x0 x1 x2 x3 xf y0 y1 y2 y3 yf z0 z1 z2 z3 zf
      obtain ⟨x0, x1, x2, x3, xf⟩ := four hx2
      obtain ⟨y0, y1, y2, y3, yf⟩ := four hy2
      obtain ⟨z0, z1, z2, z3, zf⟩ := four hz2
      have HX := hid hx2
      have HY := hid hy2
      have HZ := hid hz2
      clear hx2 hy2 hz2
      go_wp2
      have hz := HZ.out
      refine ret_row2 rfl (w.heap.size + 1 + 1) #[.int .i64 0, .int .i64 0, .int .i64 0, .int .i64 0] 23 _ rfl Try.underlying23 rfl infoV rfl (by apply Exists.intro; refine ⟨?_, ?_⟩; (focus ((repeat (first | (with_reducible assumption) | (with_reducible exact alloc_at _ _) | ((with_reducible apply alloc_at'); (simp; done)) | (with_reducible apply alloc_at_lt) | (with_reducible apply heap_drew_at) | (with_reducible apply heap_drewN_at) | (with_reducible apply heap_setCell_same) | ((with_reducible apply heap_set_ne); (first | omega | (dsimp only; omega) | (simp; done) | (simp; omega))) | (with_reducible apply setRow_at) | ((with_reducible apply setRow_ne); (first | omega | (dsimp only; omega) | (simp; done) | (simp; omega))))))); simp) ⟨?_, (by repeat (first | with_reducible assumption | with_reducible exact Below.refl _ _ | with_reducible refine Below.drew ?_ | with_reducible refine below_drewN ?_ _ | with_reducible refine below_alloc ?_ _ | with_reducible refine Below.alloc ?_ (by first | omega | (simp; done) | (simp; omega)) _ | with_reducible refine Below.setCell ?_ (by first | omega | (simp; done) | (simp; omega)) _ | with_reducible refine below_setRow ?_ (by first | omega | (simp; done) | (simp; omega)) _))⟩
      rw [addR_form (by simp [okV, hx, hy'])]; rfl

  · have hx' : formedB a b c d = false := by simpa using hx
    clear hx
    skip
    go_enter Try.func14, Try.ntmps14
    go_wp2_with fail
    refine (rformed_any _ _ _ _ _).mono ?_
    rintro e w1 ⟨rfl, hb1⟩
    have hs1 := hb1.size
    simp only [World.size_alloc] at hs1
    have hx1 := below_at hb1 (n := w.heap.size) (by simp; omega) (by (repeat (first | (with_reducible assumption) | (with_reducible exact alloc_at _ _) | ((with_reducible apply alloc_at'); (simp; done)) | (with_reducible apply alloc_at_lt) | (with_reducible apply heap_drew_at) | (with_reducible apply heap_drewN_at) | (with_reducible apply heap_setCell_same) | ((with_reducible apply heap_set_ne); (first | omega | (dsimp only; omega) | (simp; done) | (simp; omega))) | (with_reducible apply setRow_at) | ((with_reducible apply setRow_ne); (first | omega | (dsimp only; omega) | (simp; done) | (simp; omega))))))
    have hy1 := below_at hb1 (n := w.heap.size + 1) (by simp) (by (repeat (first | (with_reducible assumption) | (with_reducible exact alloc_at _ _) | ((with_reducible apply alloc_at'); (simp; done)) | (with_reducible apply alloc_at_lt) | (with_reducible apply heap_drew_at) | (with_reducible apply heap_drewN_at) | (with_reducible apply heap_setCell_same) | ((with_reducible apply heap_set_ne); (first | omega | (dsimp only; omega) | (simp; done) | (simp; omega))) | (with_reducible apply setRow_at) | ((with_reducible apply setRow_ne); (first | omega | (dsimp only; omega) | (simp; done) | (simp; omega))))))
    have hz1 := below_at hb1 (n := w.heap.size + 1 + 1) (by simp) (by (repeat (first | (with_reducible assumption) | (with_reducible exact alloc_at _ _) | ((with_reducible apply alloc_at'); (simp; done)) | (with_reducible apply alloc_at_lt) | (with_reducible apply heap_drew_at) | (with_reducible apply heap_drewN_at) | (with_reducible apply heap_setCell_same) | ((with_reducible apply heap_set_ne); (first | omega | (dsimp only; omega) | (simp; done) | (simp; omega))) | (with_reducible apply setRow_at) | ((with_reducible apply setRow_ne); (first | omega | (dsimp only; omega) | (simp; done) | (simp; omega))))))
    have hB1 : Below w.heap.size w w1 := Below.trans (by repeat (first | with_reducible assumption | with_reducible exact Below.refl _ _ | with_reducible refine Below.drew ?_ | with_reducible refine below_drewN ?_ _ | with_reducible refine below_alloc ?_ _ | with_reducible refine Below.alloc ?_ (by first | omega | (simp; done) | (simp; omega)) _ | with_reducible refine Below.setCell ?_ (by first | omega | (simp; done) | (simp; omega)) _ | with_reducible refine below_setRow ?_ (by first | omega | (simp; done) | (simp; omega)) _)) (hb1.mono (by simp; omega))
    clear hb1
    obtain ⟨x0, x1, x2, x3, xf⟩ := four hx1
    obtain ⟨y0, y1, y2, y3, yf⟩ := four hy1
    obtain ⟨z0, z1, z2, z3, zf⟩ := four hz1
    have HX := hid hx1
    have HY := hid hy1
    have HZ := hid hz1
    clear hx1 hy1 hz1
    go_wp2
    have hz := HZ.out
    refine ret_row2 rfl (w.heap.size + 1 + 1) #[.int .i64 0, .int .i64 0, .int .i64 0, .int .i64 0] 23 _ rfl Try.underlying23 rfl infoV rfl (by apply Exists.intro; refine ⟨?_, ?_⟩; (focus ((repeat (first | (with_reducible assumption) | (with_reducible exact alloc_at _ _) | ((with_reducible apply alloc_at'); (simp; done)) | (with_reducible apply alloc_at_lt) | (with_reducible apply heap_drew_at) | (with_reducible apply heap_drewN_at) | (with_reducible apply heap_setCell_same) | ((with_reducible apply heap_set_ne); (first | omega | (dsimp only; omega) | (simp; done) | (simp; omega))) | (with_reducible apply setRow_at) | ((with_reducible apply setRow_ne); (first | omega | (dsimp only; omega) | (simp; done) | (simp; omega))))))); simp) ⟨?_, (by repeat (first | with_reducible assumption | with_reducible exact Below.refl _ _ | with_reducible refine Below.drew ?_ | with_reducible refine below_drewN ?_ _ | with_reducible refine below_alloc ?_ _ | with_reducible refine Below.alloc ?_ (by first | omega | (simp; done) | (simp; omega)) _ | with_reducible refine Below.setCell ?_ (by first | omega | (simp; done) | (simp; omega)) _ | with_reducible refine below_setRow ?_ (by first | omega | (simp; done) | (simp; omega)) _))⟩
    rw [addR_form (by simp [okV, hx'])]; rfl

end Go.Proofs.Yteccpjijlkjneaa
