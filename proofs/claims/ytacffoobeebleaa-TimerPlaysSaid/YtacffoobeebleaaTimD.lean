/- Chapter 10: the other steps of TimerPlays' script: Get, Next, none. -/
import Derived.Test.YtacffoobeebleaaTimC
namespace Go.Proofs.Ytacffoobeebleaa
open Go.RowKit
set_option maxRecDepth 20000 in
set_option maxHeartbeats 4000000 in
theorem step2 (B c R : Nat) (v vr : Value) (m : Option Nat) (l lr : List Al) (s : ByteArray) (t : Int) (w : World) (h : Pair B w c v m l R vr lr) (hs : s.size ≤ maxLen) :
    Calls Try.prog 16 #[.pointer (some ⟨c, 0, none⟩), .pointer (some ⟨R, 0, none⟩), .agg #[.int .i64 2, .string s, .int .i64 t]] w fun e w' => e = .returned (.bool true) ∧ StepP B w w' c R := by
  have HH := hid h
  have HS := hid hs
  clear h hs
  go_enter Try.func16, Try.ntmps16
  go_upto_region 5 with fail
  refine wp_name ?_
  intro w1 hw1
  have B1 : Below w.heap.size w w1 := by rw [hw1]; exact (by repeat (first | with_reducible assumption | with_reducible exact Below.refl _ _ | with_reducible refine Below.drew ?_ | with_reducible refine below_drewN ?_ _ | with_reducible refine below_alloc ?_ _ | with_reducible refine Below.alloc ?_ (by first | omega | (simp; done) | (simp; omega)) _ | with_reducible refine Below.setCell ?_ (by first | omega | (simp; done) | (simp; omega)) _ | with_reducible refine below_setRow ?_ (by first | omega | (simp; done) | (simp; omega)) _))
  have X1 : w1.heap[w.heap.size]? = some (.cells #[.int .i64 2, .string s, .int .i64 t] 49 (0, 0)) := by rw [hw1]; exact at_of (by apply Exists.intro; refine ⟨?_, ?_⟩; (focus ((repeat (first | (with_reducible assumption) | (with_reducible exact alloc_at _ _) | ((with_reducible apply alloc_at'); (simp; done)) | (with_reducible apply alloc_at_lt) | (with_reducible apply heap_drew_at) | (with_reducible apply heap_drewN_at) | (with_reducible apply heap_setCell_same) | ((with_reducible apply heap_set_ne); (first | omega | (dsimp only; omega) | (simp; done) | (simp; omega))) | (with_reducible apply setRow_at) | ((with_reducible apply setRow_ne); (first | omega | (dsimp only; omega) | (simp; done) | (simp; omega))))))); simp)
  have H1 := HH.out.half B1 X1
  have HB1 : Below B w w1 := B1.mono HH.out.k.le
  clear hw1 X1 B1
  obtain ⟨x0, x1, x2⟩ := H1.cells
  have xl := lt_of_at H1.bx
  obtain ⟨t1, q1, g1, c1⟩ := get_any B c v m l s w1 H1.k HS.out
  have HH1 := hid H1
  have HB1' := hid HB1
  clear H1 HB1
  go_wp2_with fail
  refine c1.mono ?_
  rintro e w2 ⟨rfl, hb2⟩
  have H2 := HH1.out.below hb2
  obtain ⟨y0, y1, y2⟩ := H2.cells
  have yl := lt_of_at H2.bx
  obtain ⟨t2, q2, g2, c2⟩ := rget_any B R vr lr s w2 H2.r (by have := HH.out.len; omega)
  obtain ⟨rfl, rfl⟩ := HH.out.get g1 g2
  have HH2 := hid H2
  have HB2 : Hid (Below B w w2) := HB1'.out.trans (hb2.mono HH1.out.k.le)
  clear H2 x0 x1 x2 xl c1 g1 g2 hb2
  go_wp2_with fail
  refine c2.mono ?_
  rintro e w3 ⟨rfl, hb3⟩
  have HF : Hid (StepP B w w3 c R) := ⟨_, _, _, _, _, (HH2.out.below hb3).pair HH.out.same, HB2.out.trans (hb3.mono HH2.out.k.le)⟩
  clear y0 y1 y2 yl c2 hb3
  go_wp2
  all_goals
    go_ret
    exact ⟨rfl, HF.out⟩
set_option maxRecDepth 20000 in
set_option maxHeartbeats 4000000 in
theorem step4 (B c R : Nat) (v vr : Value) (m : Option Nat) (l lr : List Al) (s : ByteArray) (t : Int) (w : World) (h : Pair B w c v m l R vr lr) (_hs : s.size ≤ maxLen) :
    Calls Try.prog 16 #[.pointer (some ⟨c, 0, none⟩), .pointer (some ⟨R, 0, none⟩), .agg #[.int .i64 4, .string s, .int .i64 t]] w fun e w' => e = .returned (.bool true) ∧ StepP B w w' c R := by
  have HH := hid h
  clear h _hs
  go_enter Try.func16, Try.ntmps16
  go_upto_region 11 with fail
  refine wp_name ?_
  intro w1 hw1
  have B1 : Below w.heap.size w w1 := by rw [hw1]; exact (by repeat (first | with_reducible assumption | with_reducible exact Below.refl _ _ | with_reducible refine Below.drew ?_ | with_reducible refine below_drewN ?_ _ | with_reducible refine below_alloc ?_ _ | with_reducible refine Below.alloc ?_ (by first | omega | (simp; done) | (simp; omega)) _ | with_reducible refine Below.setCell ?_ (by first | omega | (simp; done) | (simp; omega)) _ | with_reducible refine below_setRow ?_ (by first | omega | (simp; done) | (simp; omega)) _))
  have X1 : w1.heap[w.heap.size]? = some (.cells #[.int .i64 4, .string s, .int .i64 t] 49 (0, 0)) := by rw [hw1]; exact at_of (by apply Exists.intro; refine ⟨?_, ?_⟩; (focus ((repeat (first | (with_reducible assumption) | (with_reducible exact alloc_at _ _) | ((with_reducible apply alloc_at'); (simp; done)) | (with_reducible apply alloc_at_lt) | (with_reducible apply heap_drew_at) | (with_reducible apply heap_drewN_at) | (with_reducible apply heap_setCell_same) | ((with_reducible apply heap_set_ne); (first | omega | (dsimp only; omega) | (simp; done) | (simp; omega))) | (with_reducible apply setRow_at) | ((with_reducible apply setRow_ne); (first | omega | (dsimp only; omega) | (simp; done) | (simp; omega))))))); simp)
  have H1 := HH.out.half B1 X1
  have HB1 : Below B w w1 := B1.mono HH.out.k.le
  clear hw1 X1 B1
  have HH1 := hid H1
  have HB1' := hid HB1
  obtain ⟨a, q, g1, g2⟩ : ∃ (a : Al) (q : Int), (Calls Try.prog 20 #[.pointer (some ⟨c, 0, none⟩)] w1 fun e w' => e = .returned (.tuple #[.agg #[.string a.1, .int .i64 a.2], .int .i64 q]) ∧ Below w1.heap.size w1 w') ∧ ∀ w2, Below w1.heap.size w1 w2 → Calls Try.prog 28 #[.pointer (some ⟨R, 0, none⟩)] w2 fun e w' => e = .returned (.tuple #[.agg #[.string a.1, .int .i64 a.2], .int .i64 q]) ∧ Below w2.heap.size w2 w' := by
    rcases Nat.eq_zero_or_pos l.length with h0 | h0
    · have hl0 : lr.length = 0 := by have := HH.out.same.len; omega
      obtain rfl := List.length_eq_zero_iff.1 h0
      obtain rfl := List.length_eq_zero_iff.1 hl0
      exact ⟨(ByteArray.empty, 0), 3, next_none B c v m w1 H1.k, fun w2 hb => rnext_none B R vr w2 (H1.below hb).r⟩
    · refine ⟨el l 0, 0, next_some B c v m l w1 H1.k h0, fun w2 hb => ?_⟩
      rw [← HH.out.first h0]
      exact rnext_some B R vr lr w2 (H1.below hb).r (by have := HH.out.same.len; omega) HH.out.len
  obtain ⟨a0, a1⟩ := a
  have G2 := hid g2
  clear H1 HB1 g2
  go_wp2_with fail
  refine g1.mono ?_
  rintro e w2 ⟨rfl, hb2⟩
  have HB2 := hid hb2
  clear hb2 g1
  go_upto_region 12 with fail
  refine wp_name ?_
  intro w3 hw3
  have b3 : Below w2.heap.size w2 w3 := by rw [hw3]; exact (by repeat (first | with_reducible assumption | with_reducible exact Below.refl _ _ | with_reducible refine Below.drew ?_ | with_reducible refine below_drewN ?_ _ | with_reducible refine below_alloc ?_ _ | with_reducible refine Below.alloc ?_ (by first | omega | (simp; done) | (simp; omega)) _ | with_reducible refine Below.setCell ?_ (by first | omega | (simp; done) | (simp; omega)) _ | with_reducible refine below_setRow ?_ (by first | omega | (simp; done) | (simp; omega)) _))
  have B3 := hid b3
  clear b3
  have X3 : w3.heap[w2.heap.size]? = some (.cells #[.string a0, .int .i64 a1] 34 (0, 0)) := by rw [hw3]; exact at_of (by apply Exists.intro; refine ⟨?_, ?_⟩; (focus ((repeat (first | (with_reducible assumption) | (with_reducible exact alloc_at _ _) | ((with_reducible apply alloc_at'); (simp; done)) | (with_reducible apply alloc_at_lt) | (with_reducible apply heap_drew_at) | (with_reducible apply heap_drewN_at) | (with_reducible apply heap_setCell_same) | ((with_reducible apply heap_set_ne); (first | omega | (dsimp only; omega) | (simp; done) | (simp; omega))) | (with_reducible apply setRow_at) | ((with_reducible apply setRow_ne); (first | omega | (dsimp only; omega) | (simp; done) | (simp; omega))))))); simp)
  have hb13 : Below w1.heap.size w1 w3 := HB2.out.trans (B3.out.mono HB2.out.size)
  have g2 := G2.out w3 hb13
  have HB3 := hid hb13
  have HX3 := hid X3
  clear hw3 X3 hb13
  go_wp2_with fail
  refine g2.mono ?_
  rintro e w4 ⟨rfl, hb4⟩
  have X4 := below_at hb4 (lt_of_at HX3.out) HX3.out
  have z0 := (blk_cell X4 0).trans (rfl : #[Value.string a0, .int .i64 a1][0]? = some (.string a0))
  have z1 := (blk_cell X4 1).trans (rfl : #[Value.string a0, .int .i64 a1][1]? = some (.int .i64 a1))
  have zl := lt_of_at X4
  have zz : w2.heap.size < w4.heap.size := zl
  have HB4 : Hid (Below w1.heap.size w1 w4) := HB3.out.trans (hb4.mono HB3.out.size)
  clear hb4 X4 g2
  go_wp2
  all_goals
    go_ret
    refine ⟨rfl, _, _, _, _, _, (HH1.out.below (Below.trans HB4.out (Below.mono (B := w4.heap.size) ?_ HB4.out.size))).pair HH.out.same, HB1'.out.trans (Below.mono (B := w1.heap.size) (Below.trans HB4.out (Below.mono (B := w4.heap.size) ?_ HB4.out.size)) HH1.out.k.le)⟩
    all_goals ((repeat (first | with_reducible assumption | with_reducible exact Below.refl _ _ | with_reducible refine Below.drew ?_ | with_reducible refine below_drewN ?_ _ | with_reducible refine below_alloc ?_ _ | with_reducible refine Below.alloc ?_ (by first | omega | (simp; done) | (simp; omega)) _ | with_reducible refine Below.setCell ?_ (by first | omega | (simp; done) | (simp; omega)) _ | with_reducible refine below_setRow ?_ (by first | omega | (simp; done) | (simp; omega)) _)))
set_option maxRecDepth 20000 in
set_option maxHeartbeats 4000000 in
theorem step0 (k : Int) (h1 : k ≠ 1) (h2 : k ≠ 2) (h3 : k ≠ 3) (h4 : k ≠ 4) (h5 : k ≠ 5) (B c R : Nat) (v vr : Value) (m : Option Nat) (l lr : List Al) (s : ByteArray) (t : Int) (w : World) (h : Pair B w c v m l R vr lr) (_hs : s.size ≤ maxLen) :
    Calls Try.prog 16 #[.pointer (some ⟨c, 0, none⟩), .pointer (some ⟨R, 0, none⟩), .agg #[.int .i64 k, .string s, .int .i64 t]] w fun e w' => e = .returned (.bool true) ∧ StepP B w w' c R := by
  have HH := hid h
  clear h _hs
  have k1 : (k == 1) = false := by simpa using h1
  have k2 : (k == 2) = false := by simpa using h2
  have k3 : (k == 3) = false := by simpa using h3
  have k4 : (k == 4) = false := by simpa using h4
  have k5 : (k == 5) = false := by simpa using h5
  clear h1 h2 h3 h4 h5
  go_enter Try.func16, Try.ntmps16
  go_wp2
  all_goals
    go_ret
    exact ⟨rfl, _, _, _, _, _, HH.out.below (by repeat (first | with_reducible assumption | with_reducible exact Below.refl _ _ | with_reducible refine Below.drew ?_ | with_reducible refine below_drewN ?_ _ | with_reducible refine below_alloc ?_ _ | with_reducible refine Below.alloc ?_ (by first | omega | (simp; done) | (simp; omega)) _ | with_reducible refine Below.setCell ?_ (by first | omega | (simp; done) | (simp; omega)) _ | with_reducible refine below_setRow ?_ (by first | omega | (simp; done) | (simp; omega)) _)), Below.mono (B := w.heap.size) (by (repeat (first | with_reducible assumption | with_reducible exact Below.refl _ _ | with_reducible refine Below.drew ?_ | with_reducible refine below_drewN ?_ _ | with_reducible refine below_alloc ?_ _ | with_reducible refine Below.alloc ?_ (by first | omega | (simp; done) | (simp; omega)) _ | with_reducible refine Below.setCell ?_ (by first | omega | (simp; done) | (simp; omega)) _ | with_reducible refine below_setRow ?_ (by first | omega | (simp; done) | (simp; omega)) _))) HH.out.k.le⟩
theorem step_any (k : Int) (B c R : Nat) (v vr : Value) (m : Option Nat) (l lr : List Al) (s : ByteArray) (t : Int) (w : World) (h : Pair B w c v m l R vr lr) (hs : s.size ≤ maxLen) :
    Calls Try.prog 16 #[.pointer (some ⟨c, 0, none⟩), .pointer (some ⟨R, 0, none⟩), .agg #[.int .i64 k, .string s, .int .i64 t]] w fun e w' => e = .returned (.bool true) ∧ StepP B w w' c R := by
  by_cases h1 : k = 1
  · subst h1; exact step1 B c R v vr m l lr s t w h hs
  by_cases h2 : k = 2
  · subst h2; exact step2 B c R v vr m l lr s t w h hs
  by_cases h3 : k = 3
  · subst h3; exact step3 B c R v vr m l lr s t w h hs
  by_cases h4 : k = 4
  · subst h4; exact step4 B c R v vr m l lr s t w h hs
  by_cases h5 : k = 5
  · subst h5; exact step5 B c R v vr m l lr s t w h hs
  exact step0 k h1 h2 h3 h4 h5 B c R v vr m l lr s t w h hs
end Go.Proofs.Ytacffoobeebleaa
