/- Chapter 15: the reference's before. -/
import Derived.Test.YteccpjijlkjneaaShO
import Derived.Test.YteccpjijlkjneaaBig4
namespace Go.Proofs.Yteccpjijlkjneaa
open Go.RowKit Go.WideShapes
abbrev uI (u : Us) : Array Value := #[.string u.name, .int .i64 u.wt, .int .i64 u.a, .int .i64 u.b, .int .i64 u.c, .int .i64 u.d]
theorem six {w : World} {n : Nat} {x0 x1 x2 x3 x4 x5 : Value} {t : TypeId} (h : w.heap[n]? = some (.cells #[x0, x1, x2, x3, x4, x5] t (0, 0))) :
    w.cell? ⟨n, 0, none⟩ = some x0 ∧ w.cell? ⟨n, 1, none⟩ = some x1 ∧ w.cell? ⟨n, 2, none⟩ = some x2 ∧ w.cell? ⟨n, 3, none⟩ = some x3 ∧ w.cell? ⟨n, 4, none⟩ = some x4 ∧ w.cell? ⟨n, 5, none⟩ = some x5 :=
  ⟨(blk_cell h 0).trans rfl, (blk_cell h 1).trans rfl, (blk_cell h 2).trans rfl, (blk_cell h 3).trans rfl, (blk_cell h 4).trans rfl, (blk_cell h 5).trans rfl⟩
theorem ltB_ky (a b : ByteArray) : Op.bytesLess a.toList b.toList = decide (ky a < ky b) := by
  rw [bytesLess_eq]
  simp [Go.Lib.toList_data]
set_option maxRecDepth 100000 in
set_option maxHeartbeats 8000000 in
theorem before_any (W : V4) (x y : Us) (hx : (sh W x).2 = 0) (hy : (sh W y).2 = 0) (w : World) : Calls Try.prog 27 #[.agg (vI W), .agg (uI x), .agg (uI y)] w fun e w' => e = .returned (.bool (decide (befI W x y))) ∧ Below w.heap.size w w' := by
  have HPX : Hid (∀ X, Calls Try.prog 26 #[.agg #[.int .i64 x.a, .int .i64 x.b, .int .i64 x.c, .int .i64 x.d], .agg (vI W), .int .i64 x.wt] X fun e w' => e = .returned (.tuple #[.agg #[.int .u64 (sh W x).1.1, .int .u64 (sh W x).1.2], .int .i64 0]) ∧ Below X.heap.size X w') := fun X => by
    have := rshare_any x.a x.b x.c x.d W.1 W.2.1 W.2.2.1 W.2.2.2 x.wt X
    unfold sh at hx ⊢
    rw [hx] at this
    exact this
  have HPY : Hid (∀ X, Calls Try.prog 26 #[.agg #[.int .i64 y.a, .int .i64 y.b, .int .i64 y.c, .int .i64 y.d], .agg (vI W), .int .i64 y.wt] X fun e w' => e = .returned (.tuple #[.agg #[.int .u64 (sh W y).1.1, .int .u64 (sh W y).1.2], .int .i64 0]) ∧ Below X.heap.size X w') := fun X => by
    have := rshare_any y.a y.b y.c y.d W.1 W.2.1 W.2.2.1 W.2.2.2 y.wt X
    unfold sh at hy ⊢
    rw [hy] at this
    exact this
  have ox := sh_ok hx
  have oy := sh_ok hy
  obtain ⟨r, hr⟩ : ∃ r, r = decide (befI W x y) := ⟨_, rfl⟩
  obtain ⟨lt, hlt⟩ : ∃ t, t = decide (ky x.name < ky y.name) := ⟨_, rfl⟩
  obtain ⟨c, hc⟩ : ∃ c, c = cmpZ ((sh W x).1.1 * (sh W y).1.2) ((sh W y).1.1 * (sh W x).1.2) := ⟨_, rfl⟩
  have HRES : Hid (r = (decide (c < 0) || (decide (c = 0) && lt))) := by
    unfold Hid
    rw [hr, hlt, hc]
    unfold befI cmpZ
    by_cases q1 : (sh W x).1.1 * (sh W y).1.2 < (sh W y).1.1 * (sh W x).1.2
    · rw [if_pos q1]; simp [q1]
    · rw [if_neg q1]
      by_cases q2 : (sh W y).1.1 * (sh W x).1.2 < (sh W x).1.1 * (sh W y).1.2
      · have q3 : (sh W x).1.1 * (sh W y).1.2 ≠ (sh W y).1.1 * (sh W x).1.2 := by omega
        rw [if_pos q2]; simp [q1, q3]
      · have q3 : (sh W x).1.1 * (sh W y).1.2 = (sh W y).1.1 * (sh W x).1.2 := by omega
        rw [if_neg q2]; simp [q3]
  have HC : Hid (∀ X, Calls Try.prog 43 #[.agg #[.int .u64 (sh W x).1.1, .int .u64 (sh W x).1.2], .agg #[.int .u64 (sh W y).1.1, .int .u64 (sh W y).1.2]] X fun e w' => e = .returned (.tuple #[.int .i64 c, .int .i64 0]) ∧ Below X.heap.size X w') := fun X => by
    have := rcmp_any (sh W x).1.1 (sh W x).1.2 (sh W y).1.1 (sh W y).1.2 X ox.1.1 ox.1.2.1 (Int.le_of_lt ox.2) ox.1.2.2 oy.1.1 oy.1.2.1 (Int.le_of_lt oy.2) oy.1.2.2
    have e : cmpR (sh W x).1.1 (sh W x).1.2 (sh W y).1.1 (sh W y).1.2 = (c, 0) := by
      unfold cmpR
      rw [if_neg (by have := ox.2; have := oy.2; simp only at *; omega), hc]
    rw [e] at this
    exact this
  rw [← hr]
  have hltb : Op.bytesLess x.name.toList y.name.toList = lt := by rw [hlt, ltB_ky]
  obtain ⟨Wa, Wb, Wc, Wd⟩ := W
  obtain ⟨xn, xw, xa, xb, xc, xd⟩ := x
  obtain ⟨yn, yw, ya, yb, yc, yd⟩ := y
  generalize (sh (Wa, Wb, Wc, Wd) ⟨xn, xw, xa, xb, xc, xd⟩).1.1 = p at *
  generalize (sh (Wa, Wb, Wc, Wd) ⟨xn, xw, xa, xb, xc, xd⟩).1.2 = q at *
  generalize (sh (Wa, Wb, Wc, Wd) ⟨yn, yw, ya, yb, yc, yd⟩).1.1 = p' at *
  generalize (sh (Wa, Wb, Wc, Wd) ⟨yn, yw, ya, yb, yc, yd⟩).1.2 = q' at *
  unfold uI vI
  simp only at *
  clear hx hy ox oy hr hlt hc
  go_enter Try.func27, Try.ntmps27
  go_upto_region 1 with (fail)
  refine wp_name ?_
  intro w1 hw1
  have b1 : Below w.heap.size w w1 := by rw [hw1]; exact (by repeat (first | with_reducible assumption | with_reducible exact Below.refl _ _ | with_reducible refine Below.drew ?_ | with_reducible refine below_drewN ?_ _ | with_reducible refine below_alloc ?_ _ | with_reducible refine Below.alloc ?_ (by first | omega | (simp; done) | (simp; omega)) _ | with_reducible refine Below.setCell ?_ (by first | omega | (simp; done) | (simp; omega)) _ | with_reducible refine below_setRow ?_ (by first | omega | (simp; done) | (simp; omega)) _))
  have XW : w1.heap[w.heap.size]? = some (.cells #[.int .i64 Wa, .int .i64 Wb, .int .i64 Wc, .int .i64 Wd] 23 (0, 0)) := by rw [hw1]; exact at_of (by apply Exists.intro; refine ⟨?_, ?_⟩; (focus ((repeat (first | (with_reducible assumption) | (with_reducible exact alloc_at _ _) | ((with_reducible apply alloc_at'); (simp; done)) | (with_reducible apply alloc_at_lt) | (with_reducible apply heap_drew_at) | (with_reducible apply heap_drewN_at) | (with_reducible apply heap_setCell_same) | ((with_reducible apply heap_set_ne); (first | omega | (dsimp only; omega) | (simp; done) | (simp; omega))) | (with_reducible apply setRow_at) | ((with_reducible apply setRow_ne); (first | omega | (dsimp only; omega) | (simp; done) | (simp; omega))))))); simp)
  have XX : w1.heap[w.heap.size + 1]? = some (.cells #[.string xn, .int .i64 xw, .int .i64 xa, .int .i64 xb, .int .i64 xc, .int .i64 xd] 67 (0, 0)) := by rw [hw1]; exact at_of (by apply Exists.intro; refine ⟨?_, ?_⟩; (focus ((repeat (first | (with_reducible assumption) | (with_reducible exact alloc_at _ _) | ((with_reducible apply alloc_at'); (simp; done)) | (with_reducible apply alloc_at_lt) | (with_reducible apply heap_drew_at) | (with_reducible apply heap_drewN_at) | (with_reducible apply heap_setCell_same) | ((with_reducible apply heap_set_ne); (first | omega | (dsimp only; omega) | (simp; done) | (simp; omega))) | (with_reducible apply setRow_at) | ((with_reducible apply setRow_ne); (first | omega | (dsimp only; omega) | (simp; done) | (simp; omega))))))); simp)
  have XY : w1.heap[w.heap.size + 1 + 1]? = some (.cells #[.string yn, .int .i64 yw, .int .i64 ya, .int .i64 yb, .int .i64 yc, .int .i64 yd] 67 (0, 0)) := by rw [hw1]; exact at_of (by apply Exists.intro; refine ⟨?_, ?_⟩; (focus ((repeat (first | (with_reducible assumption) | (with_reducible exact alloc_at _ _) | ((with_reducible apply alloc_at'); (simp; done)) | (with_reducible apply alloc_at_lt) | (with_reducible apply heap_drew_at) | (with_reducible apply heap_drewN_at) | (with_reducible apply heap_setCell_same) | ((with_reducible apply heap_set_ne); (first | omega | (dsimp only; omega) | (simp; done) | (simp; omega))) | (with_reducible apply setRow_at) | ((with_reducible apply setRow_ne); (first | omega | (dsimp only; omega) | (simp; done) | (simp; omega))))))); simp)
  obtain ⟨b0, hb0⟩ : ∃ x, x = w.heap.size := ⟨_, rfl⟩
  rw [← hb0] at XW XX XY ⊢
  obtain ⟨b2, hb2⟩ : ∃ x, x = b0 + 1 := ⟨_, rfl⟩
  rw [← hb2] at XX XY
  obtain ⟨b3, hb3⟩ : ∃ x, x = b2 + 1 := ⟨_, rfl⟩
  rw [← hb3] at XY
  try rw [← hb2]
  try rw [← hb3]
  have HX : Hid (w1.heap[b0]? = _ ∧ w1.heap[b2]? = _ ∧ w1.heap[b3]? = _ ∧ Below w.heap.size w w1) := ⟨XW, XX, XY, b1⟩
  clear hw1 b1 hb0 hb2 hb3
  have key : ∀ X, Below w1.heap.size w1 X → (X.heap[b0]? = some (.cells #[.int .i64 Wa, .int .i64 Wb, .int .i64 Wc, .int .i64 Wd] 23 (0, 0)) ∧ X.heap[b2]? = some (.cells #[.string xn, .int .i64 xw, .int .i64 xa, .int .i64 xb, .int .i64 xc, .int .i64 xd] 67 (0, 0)) ∧ X.heap[b3]? = some (.cells #[.string yn, .int .i64 yw, .int .i64 ya, .int .i64 yb, .int .i64 yc, .int .i64 yd] 67 (0, 0))) ∧ Below w.heap.size w X := fun X hb => ⟨⟨below_at hb (lt_of_at XW) XW, below_at hb (lt_of_at XX) XX, below_at hb (lt_of_at XY) XY⟩, HX.out.2.2.2.trans (hb.mono HX.out.2.2.2.size)⟩
  have KEY := hid key
  clear key HX
  obtain ⟨y0, y1, y2, y3, -⟩ := four XW
  obtain ⟨u0, u1, u2, u3, u4, u5⟩ := six XX
  have l0 := lt_of_at XW
  have l2 := lt_of_at XX
  clear XW XX XY
  go_wp2_with fail
  refine (HPX.out _).mono ?_
  rintro e w2 ⟨rfl, hb2⟩
  have B2 := hid hb2
  clear hb2 HPX y0 y1 y2 y3 u0 u1 u2 u3 u4 u5 l0 l2
  go_upto_region 2 with (fail)
  refine wp_name ?_
  intro w3 hw3
  have b3' : Below w2.heap.size w2 w3 := by rw [hw3]; exact (by repeat (first | with_reducible assumption | with_reducible exact Below.refl _ _ | with_reducible refine Below.drew ?_ | with_reducible refine below_drewN ?_ _ | with_reducible refine below_alloc ?_ _ | with_reducible refine Below.alloc ?_ (by first | omega | (simp; done) | (simp; omega)) _ | with_reducible refine Below.setCell ?_ (by first | omega | (simp; done) | (simp; omega)) _ | with_reducible refine below_setRow ?_ (by first | omega | (simp; done) | (simp; omega)) _))
  have XR : w3.heap[w2.heap.size]? = some (.cells #[.int .u64 p, .int .u64 q] 64 (0, 0)) := by rw [hw3]; exact at_of (by apply Exists.intro; refine ⟨?_, ?_⟩; (focus ((repeat (first | (with_reducible assumption) | (with_reducible exact alloc_at _ _) | ((with_reducible apply alloc_at'); (simp; done)) | (with_reducible apply alloc_at_lt) | (with_reducible apply heap_drew_at) | (with_reducible apply heap_drewN_at) | (with_reducible apply heap_setCell_same) | ((with_reducible apply heap_set_ne); (first | omega | (dsimp only; omega) | (simp; done) | (simp; omega))) | (with_reducible apply setRow_at) | ((with_reducible apply setRow_ne); (first | omega | (dsimp only; omega) | (simp; done) | (simp; omega))))))); simp)
  obtain ⟨br, hbr⟩ : ∃ x, x = w2.heap.size := ⟨_, rfl⟩
  rw [← hbr] at XR ⊢
  have HXR := hid XR
  have B3 : Hid (Below w1.heap.size w1 w3) := B2.out.trans (b3'.mono B2.out.size)
  clear hw3 b3' B2 hbr XR
  obtain ⟨⟨XW, XX, XY⟩, -⟩ := KEY.out _ B3.out
  obtain ⟨y0, y1, y2, y3, -⟩ := four XW
  obtain ⟨u0, u1, u2, u3, u4, u5⟩ := six XY
  have l0 := lt_of_at XW
  have l2 := lt_of_at XY
  clear XW XX XY
  go_wp2_with fail
  refine (HPY.out _).mono ?_
  rintro e w4 ⟨rfl, hb4⟩
  have B4 : Hid (Below w1.heap.size w1 w4) := B3.out.trans (hb4.mono B3.out.size)
  have HXR4 := hid (below_at hb4 (lt_of_at HXR.out) HXR.out)
  clear hb4 HPY y0 y1 y2 y3 u0 u1 u2 u3 u4 u5 l0 l2 B3 HXR
  go_upto_region 3 with (fail)
  refine wp_name ?_
  intro w5 hw5
  have b5 : Below w4.heap.size w4 w5 := by rw [hw5]; exact (by repeat (first | with_reducible assumption | with_reducible exact Below.refl _ _ | with_reducible refine Below.drew ?_ | with_reducible refine below_drewN ?_ _ | with_reducible refine below_alloc ?_ _ | with_reducible refine Below.alloc ?_ (by first | omega | (simp; done) | (simp; omega)) _ | with_reducible refine Below.setCell ?_ (by first | omega | (simp; done) | (simp; omega)) _ | with_reducible refine below_setRow ?_ (by first | omega | (simp; done) | (simp; omega)) _))
  have XS : w5.heap[w4.heap.size]? = some (.cells #[.int .u64 p', .int .u64 q'] 64 (0, 0)) := by rw [hw5]; exact at_of (by apply Exists.intro; refine ⟨?_, ?_⟩; (focus ((repeat (first | (with_reducible assumption) | (with_reducible exact alloc_at _ _) | ((with_reducible apply alloc_at'); (simp; done)) | (with_reducible apply alloc_at_lt) | (with_reducible apply heap_drew_at) | (with_reducible apply heap_drewN_at) | (with_reducible apply heap_setCell_same) | ((with_reducible apply heap_set_ne); (first | omega | (dsimp only; omega) | (simp; done) | (simp; omega))) | (with_reducible apply setRow_at) | ((with_reducible apply setRow_ne); (first | omega | (dsimp only; omega) | (simp; done) | (simp; omega))))))); simp)
  obtain ⟨bs, hbs⟩ : ∃ x, x = w4.heap.size := ⟨_, rfl⟩
  rw [← hbs] at XS ⊢
  have XR := below_at b5 (lt_of_at HXR4.out) HXR4.out
  have B5 : Hid (Below w1.heap.size w1 w5) := B4.out.trans (b5.mono B4.out.size)
  obtain ⟨p0, p1, -⟩ := two XR
  obtain ⟨q0, q1, -⟩ := two XS
  have l0 := lt_of_at XR
  have l2 := lt_of_at XS
  clear hw5 b5 XS XR hbs HXR4 B4
  go_wp2_with fail
  refine (HC.out _).mono ?_
  rintro e w6 ⟨rfl, hb6⟩
  have B6 : Hid (Below w1.heap.size w1 w6) := B5.out.trans (hb6.mono B5.out.size)
  obtain ⟨⟨XW, XX, XY⟩, FB⟩ := KEY.out _ B6.out
  have HFB := hid FB
  have u0 := (six XX).1
  have v0 := (six XY).1
  have l0' := lt_of_at XX
  have l2' := lt_of_at XY
  clear hb6 B5 B6 HC p0 p1 q0 q1 l0 l2 XW XX XY FB KEY
  by_cases c1 : c < 0
  · have F : r = true := by rw [HRES.out]; simp [c1]
    have d1 : decide (c < 0) = true := by simp [c1]
    subst F
    go_wp2
    go_ret
    exact ⟨by first | rfl | simp, HFB.out⟩
  · have d1 : decide (c < 0) = false := by simp [c1]
    by_cases c2 : c = 0
    · subst c2
      have F : r = lt := by rw [HRES.out]; simp
      subst F
      go_wp2
      go_ret
      exact ⟨by first | rfl | simp [hltb], HFB.out⟩
    · have c2' : (c == 0) = false := by simpa using c2
      have F : r = false := by rw [HRES.out]; simp [c1, c2]
      subst F
      go_wp2
      go_ret
      exact ⟨by first | rfl | simp, HFB.out⟩
end Go.Proofs.Yteccpjijlkjneaa
