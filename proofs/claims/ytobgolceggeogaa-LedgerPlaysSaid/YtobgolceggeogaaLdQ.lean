/- Chapter 13's step: Used and Left. -/
import Derived.Test.YtobgolceggeogaaLdP
namespace Go.Proofs.Ytobgolceggeogaa
open Go.RowKit Go.Maps
theorem eqVt (a b c d : Int) : ∀ w : World, (Op.equalIn 10000 29 (.agg #[.int .i64 a, .int .i64 b, .int .i64 c, .int .i64 d]) (.agg #[.int .i64 a, .int .i64 b, .int .i64 c, .int .i64 d])).run Try.prog w = .ok true w := fun w => by
  rw [eqV' 9998]
  simp
set_option maxRecDepth 20000 in
set_option maxHeartbeats 4000000 in
theorem stepL3 (B L R n : Nat) (A : Acc) (s : ByteArray) (a b c d : Int) (S : Option Addr) (len cap : Nat) (l : List Ent) (w : World) (h : HalfP B w L R n n A A S len l) (hs : s.size ≤ maxLen) (hm : len ≤ 2000) (hk : KeyLe A) :
    Calls Try.prog 24 #[.pointer (some ⟨L, 0, none⟩), .pointer (some ⟨R, 0, none⟩), .agg #[.int .i64 3, .string s, .int .i64 a, .int .i64 b, .int .i64 c, .int .i64 d, .slice S len cap]] w fun e w' => e = .returned (.bool true) ∧ StepL B w w' L R S len l := by
  have HH := hid h
  have HP : Hid (∀ W, HalfL B W L R n n A A S len l w.heap.size #[.int .i64 3, .string s, .int .i64 a, .int .i64 b, .int .i64 c, .int .i64 d, .slice S len cap] → Calls Try.prog 13 #[.pointer (some ⟨L, 0, none⟩), .string s] W fun e w' => e = .returned (.tuple #[vv (usedOf A s.data.toList), .int .i64 (if (A s.data.toList).isSome then 0 else 3)]) ∧ Below W.heap.size W w') := fun W hW => used_b B L n A s W hW.half.led hs
  have HR : Hid (∀ W, HalfL B W L R n n A A S len l w.heap.size #[.int .i64 3, .string s, .int .i64 a, .int .i64 b, .int .i64 c, .int .i64 d, .slice S len cap] → Calls Try.prog 26 #[.pointer (some ⟨R, 0, none⟩), .string s] W fun e w' => e = .returned (.tuple #[vv (usedOf A s.data.toList), .int .i64 (if (A s.data.toList).isSome then 0 else 3)]) ∧ Below W.heap.size W w') := fun W hW => rused_b B R n A s W hW.half.ref.toB h.led.1
  generalize (if (A s.data.toList).isSome = true then (0 : Int) else 3) = er at HP HR
  generalize usedOf A s.data.toList = v at HP HR
  obtain ⟨z0, z1, z2, z3⟩ := v
  simp only [vv] at HP HR
  have HE := hid (eqVt z0 z1 z2 z3)
  have HK := hid hk
  clear h hs hm hk
  go_enter Try.func24, Try.ntmps24
  go_upto_region 7 with fail
  refine wp_name ?_
  intro w1 hw1
  have B1 : Below w.heap.size w w1 := by rw [hw1]; exact (by repeat (first | with_reducible assumption | with_reducible exact Below.refl _ _ | with_reducible refine Below.drew ?_ | with_reducible refine below_drewN ?_ _ | with_reducible refine below_alloc ?_ _ | with_reducible refine Below.alloc ?_ (by first | omega | (simp; done) | (simp; omega)) _ | with_reducible refine Below.setCell ?_ (by first | omega | (simp; done) | (simp; omega)) _ | with_reducible refine below_setRow ?_ (by first | omega | (simp; done) | (simp; omega)) _))
  have X1 : w1.heap[w.heap.size]? = some (.cells #[.int .i64 3, .string s, .int .i64 a, .int .i64 b, .int .i64 c, .int .i64 d, .slice S len cap] 50 (0, 0)) := by rw [hw1]; exact at_of (by apply Exists.intro; refine ⟨?_, ?_⟩; (focus ((repeat (first | (with_reducible assumption) | (with_reducible exact alloc_at _ _) | ((with_reducible apply alloc_at'); (simp; done)) | (with_reducible apply alloc_at_lt) | (with_reducible apply heap_drew_at) | (with_reducible apply heap_drewN_at) | (with_reducible apply heap_setCell_same) | ((with_reducible apply heap_set_ne); (first | omega | (dsimp only; omega) | (simp; done) | (simp; omega))) | (with_reducible apply setRow_at) | ((with_reducible apply setRow_ne); (first | omega | (dsimp only; omega) | (simp; done) | (simp; omega))))))); simp)
  have H1 : HalfL B w1 L R n n A A S len l w.heap.size #[.int .i64 3, .string s, .int .i64 a, .int .i64 b, .int .i64 c, .int .i64 d, .slice S len cap] := ⟨HH.out.below B1, X1⟩
  have HB1 := hid (B1.mono HH.out.le)
  have HL1 := hid B1
  clear hw1
  clear B1
  have x1 : w1.cell? ⟨w.heap.size, 1, none⟩ = some (.string s) := (blk_cell X1 1).trans rfl
  have xl := lt_of_at X1
  have hg1 := HP.out w1 H1
  have HX1 := hid H1
  clear H1 X1
  go_wp2_with fail
  refine hg1.mono ?_
  rintro e w2 ⟨rfl, hb2⟩
  have H2 := HX1.out.below hb2
  have HB2 : Hid (Below w1.heap.size w1 w2) := hb2
  clear x1 xl hg1 hb2
  have X2 := H2.box
  have HX2 := hid H2
  have y1 : w2.cell? ⟨w.heap.size, 1, none⟩ = some (.string s) := (blk_cell X2 1).trans rfl
  have yl := lt_of_at X2
  clear H2 X2
  go_upto_region 8 with fail
  refine wp_name ?_
  intro w3 hw3
  have B3 : Below w2.heap.size w2 w3 := by rw [hw3]; exact (by repeat (first | with_reducible assumption | with_reducible exact Below.refl _ _ | with_reducible refine Below.drew ?_ | with_reducible refine below_drewN ?_ _ | with_reducible refine below_alloc ?_ _ | with_reducible refine Below.alloc ?_ (by first | omega | (simp; done) | (simp; omega)) _ | with_reducible refine Below.setCell ?_ (by first | omega | (simp; done) | (simp; omega)) _ | with_reducible refine below_setRow ?_ (by first | omega | (simp; done) | (simp; omega)) _))
  have N3 : w3.heap[w2.heap.size]? = some (.cells #[.int .i64 z0, .int .i64 z1, .int .i64 z2, .int .i64 z3] 29 (0, 0)) := by rw [hw3]; exact at_of (by apply Exists.intro; refine ⟨?_, ?_⟩; (focus ((repeat (first | (with_reducible assumption) | (with_reducible exact alloc_at _ _) | ((with_reducible apply alloc_at'); (simp; done)) | (with_reducible apply alloc_at_lt) | (with_reducible apply heap_drew_at) | (with_reducible apply heap_drewN_at) | (with_reducible apply heap_setCell_same) | ((with_reducible apply heap_set_ne); (first | omega | (dsimp only; omega) | (simp; done) | (simp; omega))) | (with_reducible apply setRow_at) | ((with_reducible apply setRow_ne); (first | omega | (dsimp only; omega) | (simp; done) | (simp; omega))))))); simp)
  have H3 := HX2.out.below B3
  have X3 := H3.box
  have HB3 : Hid (Below w1.heap.size w1 w3) := HB2.out.trans (B3.mono HB2.out.size)
  have u1 : w3.cell? ⟨w.heap.size, 1, none⟩ = some (.string s) := (blk_cell X3 1).trans rfl
  have ul := lt_of_at X3
  have hr3 := HR.out w3 H3
  have HX3 := hid H3
  clear hw3 y1 yl B3 X3 H3
  go_wp2_with fail
  refine hr3.mono ?_
  rintro e w4 ⟨rfl, hb4⟩
  have N4 := below_at hb4 (lt_of_at N3) N3
  have HX4 := hid (HX3.out.below hb4)
  have HB4 : Hid (Below w1.heap.size w1 w4) := HB3.out.trans (hb4.mono HB3.out.size)
  clear u1 ul hr3 hb4 N3
  have n0 : w4.cell? ⟨w2.heap.size, 0, none⟩ = some (.int .i64 z0) := (blk_cell N4 0).trans rfl
  have n1 : w4.cell? ⟨w2.heap.size, 1, none⟩ = some (.int .i64 z1) := (blk_cell N4 1).trans rfl
  have n2 : w4.cell? ⟨w2.heap.size, 2, none⟩ = some (.int .i64 z2) := (blk_cell N4 2).trans rfl
  have n3 : w4.cell? ⟨w2.heap.size, 3, none⟩ = some (.int .i64 z3) := (blk_cell N4 3).trans rfl
  have nl := lt_of_at N4
  have hE := HE.out
  clear N4
  go_wp2
  all_goals
    go_ret
    exact ⟨by simp, _, _, HK.out, HX4.out.half.below (by repeat (first | with_reducible assumption | with_reducible exact Below.refl _ _ | with_reducible refine Below.drew ?_ | with_reducible refine below_drewN ?_ _ | with_reducible refine below_alloc ?_ _ | with_reducible refine Below.alloc ?_ (by first | omega | (simp; done) | (simp; omega)) _ | with_reducible refine Below.setCell ?_ (by first | omega | (simp; done) | (simp; omega)) _ | with_reducible refine below_setRow ?_ (by first | omega | (simp; done) | (simp; omega)) _)), (HB1.out.trans ((HB4.out.mono (by have := HH.out.le; have := HL1.out.size; omega)))).trans (Below.mono (by repeat (first | with_reducible assumption | with_reducible exact Below.refl _ _ | with_reducible refine Below.drew ?_ | with_reducible refine below_drewN ?_ _ | with_reducible refine below_alloc ?_ _ | with_reducible refine Below.alloc ?_ (by first | omega | (simp; done) | (simp; omega)) _ | with_reducible refine Below.setCell ?_ (by first | omega | (simp; done) | (simp; omega)) _ | with_reducible refine below_setRow ?_ (by first | omega | (simp; done) | (simp; omega)) _)) HX4.out.half.le)⟩
set_option maxRecDepth 20000 in
set_option maxHeartbeats 4000000 in
theorem stepL4 (B L R n : Nat) (A : Acc) (s : ByteArray) (a b c d : Int) (S : Option Addr) (len cap : Nat) (l : List Ent) (w : World) (h : HalfP B w L R n n A A S len l) (hs : s.size ≤ maxLen) (hm : len ≤ 2000) (hk : KeyLe A) :
    Calls Try.prog 24 #[.pointer (some ⟨L, 0, none⟩), .pointer (some ⟨R, 0, none⟩), .agg #[.int .i64 4, .string s, .int .i64 a, .int .i64 b, .int .i64 c, .int .i64 d, .slice S len cap]] w fun e w' => e = .returned (.bool true) ∧ StepL B w w' L R S len l := by
  have HH := hid h
  have HP : Hid (∀ W, HalfL B W L R n n A A S len l w.heap.size #[.int .i64 4, .string s, .int .i64 a, .int .i64 b, .int .i64 c, .int .i64 d, .slice S len cap] → Calls Try.prog 18 #[.pointer (some ⟨L, 0, none⟩), .string s] W fun e w' => e = .returned (.tuple #[vv (leftOf A s.data.toList), .int .i64 (if (A s.data.toList).isSome then 0 else 3)]) ∧ Below W.heap.size W w') := fun W hW => left_b B L n A s W hW.half.led hs
  have HR : Hid (∀ W, HalfL B W L R n n A A S len l w.heap.size #[.int .i64 4, .string s, .int .i64 a, .int .i64 b, .int .i64 c, .int .i64 d, .slice S len cap] → Calls Try.prog 19 #[.pointer (some ⟨R, 0, none⟩), .string s] W fun e w' => e = .returned (.tuple #[vv (leftOf A s.data.toList), .int .i64 (if (A s.data.toList).isSome then 0 else 3)]) ∧ Below W.heap.size W w') := fun W hW => rleft_b B R n A s W hW.half.ref.toB h.led.1 h.led.2.1
  generalize (if (A s.data.toList).isSome = true then (0 : Int) else 3) = er at HP HR
  generalize leftOf A s.data.toList = v at HP HR
  obtain ⟨z0, z1, z2, z3⟩ := v
  simp only [vv] at HP HR
  have HE := hid (eqVt z0 z1 z2 z3)
  have HK := hid hk
  clear h hs hm hk
  go_enter Try.func24, Try.ntmps24
  go_upto_region 11 with fail
  refine wp_name ?_
  intro w1 hw1
  have B1 : Below w.heap.size w w1 := by rw [hw1]; exact (by repeat (first | with_reducible assumption | with_reducible exact Below.refl _ _ | with_reducible refine Below.drew ?_ | with_reducible refine below_drewN ?_ _ | with_reducible refine below_alloc ?_ _ | with_reducible refine Below.alloc ?_ (by first | omega | (simp; done) | (simp; omega)) _ | with_reducible refine Below.setCell ?_ (by first | omega | (simp; done) | (simp; omega)) _ | with_reducible refine below_setRow ?_ (by first | omega | (simp; done) | (simp; omega)) _))
  have X1 : w1.heap[w.heap.size]? = some (.cells #[.int .i64 4, .string s, .int .i64 a, .int .i64 b, .int .i64 c, .int .i64 d, .slice S len cap] 50 (0, 0)) := by rw [hw1]; exact at_of (by apply Exists.intro; refine ⟨?_, ?_⟩; (focus ((repeat (first | (with_reducible assumption) | (with_reducible exact alloc_at _ _) | ((with_reducible apply alloc_at'); (simp; done)) | (with_reducible apply alloc_at_lt) | (with_reducible apply heap_drew_at) | (with_reducible apply heap_drewN_at) | (with_reducible apply heap_setCell_same) | ((with_reducible apply heap_set_ne); (first | omega | (dsimp only; omega) | (simp; done) | (simp; omega))) | (with_reducible apply setRow_at) | ((with_reducible apply setRow_ne); (first | omega | (dsimp only; omega) | (simp; done) | (simp; omega))))))); simp)
  have H1 : HalfL B w1 L R n n A A S len l w.heap.size #[.int .i64 4, .string s, .int .i64 a, .int .i64 b, .int .i64 c, .int .i64 d, .slice S len cap] := ⟨HH.out.below B1, X1⟩
  have HB1 := hid (B1.mono HH.out.le)
  have HL1 := hid B1
  clear hw1
  clear B1
  have x1 : w1.cell? ⟨w.heap.size, 1, none⟩ = some (.string s) := (blk_cell X1 1).trans rfl
  have xl := lt_of_at X1
  have hg1 := HP.out w1 H1
  have HX1 := hid H1
  clear H1 X1
  go_wp2_with fail
  refine hg1.mono ?_
  rintro e w2 ⟨rfl, hb2⟩
  have H2 := HX1.out.below hb2
  have HB2 : Hid (Below w1.heap.size w1 w2) := hb2
  clear x1 xl hg1 hb2
  have X2 := H2.box
  have HX2 := hid H2
  have y1 : w2.cell? ⟨w.heap.size, 1, none⟩ = some (.string s) := (blk_cell X2 1).trans rfl
  have yl := lt_of_at X2
  clear H2 X2
  go_upto_region 12 with fail
  refine wp_name ?_
  intro w3 hw3
  have B3 : Below w2.heap.size w2 w3 := by rw [hw3]; exact (by repeat (first | with_reducible assumption | with_reducible exact Below.refl _ _ | with_reducible refine Below.drew ?_ | with_reducible refine below_drewN ?_ _ | with_reducible refine below_alloc ?_ _ | with_reducible refine Below.alloc ?_ (by first | omega | (simp; done) | (simp; omega)) _ | with_reducible refine Below.setCell ?_ (by first | omega | (simp; done) | (simp; omega)) _ | with_reducible refine below_setRow ?_ (by first | omega | (simp; done) | (simp; omega)) _))
  have N3 : w3.heap[w2.heap.size]? = some (.cells #[.int .i64 z0, .int .i64 z1, .int .i64 z2, .int .i64 z3] 29 (0, 0)) := by rw [hw3]; exact at_of (by apply Exists.intro; refine ⟨?_, ?_⟩; (focus ((repeat (first | (with_reducible assumption) | (with_reducible exact alloc_at _ _) | ((with_reducible apply alloc_at'); (simp; done)) | (with_reducible apply alloc_at_lt) | (with_reducible apply heap_drew_at) | (with_reducible apply heap_drewN_at) | (with_reducible apply heap_setCell_same) | ((with_reducible apply heap_set_ne); (first | omega | (dsimp only; omega) | (simp; done) | (simp; omega))) | (with_reducible apply setRow_at) | ((with_reducible apply setRow_ne); (first | omega | (dsimp only; omega) | (simp; done) | (simp; omega))))))); simp)
  have H3 := HX2.out.below B3
  have X3 := H3.box
  have HB3 : Hid (Below w1.heap.size w1 w3) := HB2.out.trans (B3.mono HB2.out.size)
  have u1 : w3.cell? ⟨w.heap.size, 1, none⟩ = some (.string s) := (blk_cell X3 1).trans rfl
  have ul := lt_of_at X3
  have hr3 := HR.out w3 H3
  have HX3 := hid H3
  clear hw3 y1 yl B3 X3 H3
  go_wp2_with fail
  refine hr3.mono ?_
  rintro e w4 ⟨rfl, hb4⟩
  have N4 := below_at hb4 (lt_of_at N3) N3
  have HX4 := hid (HX3.out.below hb4)
  have HB4 : Hid (Below w1.heap.size w1 w4) := HB3.out.trans (hb4.mono HB3.out.size)
  clear u1 ul hr3 hb4 N3
  have n0 : w4.cell? ⟨w2.heap.size, 0, none⟩ = some (.int .i64 z0) := (blk_cell N4 0).trans rfl
  have n1 : w4.cell? ⟨w2.heap.size, 1, none⟩ = some (.int .i64 z1) := (blk_cell N4 1).trans rfl
  have n2 : w4.cell? ⟨w2.heap.size, 2, none⟩ = some (.int .i64 z2) := (blk_cell N4 2).trans rfl
  have n3 : w4.cell? ⟨w2.heap.size, 3, none⟩ = some (.int .i64 z3) := (blk_cell N4 3).trans rfl
  have nl := lt_of_at N4
  have hE := HE.out
  clear N4
  go_wp2
  all_goals
    go_ret
    exact ⟨by simp, _, _, HK.out, HX4.out.half.below (by repeat (first | with_reducible assumption | with_reducible exact Below.refl _ _ | with_reducible refine Below.drew ?_ | with_reducible refine below_drewN ?_ _ | with_reducible refine below_alloc ?_ _ | with_reducible refine Below.alloc ?_ (by first | omega | (simp; done) | (simp; omega)) _ | with_reducible refine Below.setCell ?_ (by first | omega | (simp; done) | (simp; omega)) _ | with_reducible refine below_setRow ?_ (by first | omega | (simp; done) | (simp; omega)) _)), (HB1.out.trans ((HB4.out.mono (by have := HH.out.le; have := HL1.out.size; omega)))).trans (Below.mono (by repeat (first | with_reducible assumption | with_reducible exact Below.refl _ _ | with_reducible refine Below.drew ?_ | with_reducible refine below_drewN ?_ _ | with_reducible refine below_alloc ?_ _ | with_reducible refine Below.alloc ?_ (by first | omega | (simp; done) | (simp; omega)) _ | with_reducible refine Below.setCell ?_ (by first | omega | (simp; done) | (simp; omega)) _ | with_reducible refine below_setRow ?_ (by first | omega | (simp; done) | (simp; omega)) _)) HX4.out.half.le)⟩
end Go.Proofs.Ytobgolceggeogaa
