/- Chapter 8's reference heap: Pop. -/
import Derived.Test.YthdbiablpkeagaaRfD
namespace Go.Proofs.Ythdbiablpkeagaa
open Go.RowKit
variable {B H g cap : Nat} {w w' : World} {s s' : Hp} {v : Value}
/-- The block n alone. -/
def IsAt (n k : Nat) : Prop := k = n
theorem tur_at {n o : Nat} {u : Value} {W : World} : Tur (IsAt n) W (W.setCell ⟨n, o, none⟩ u) := Tur.set u (.inl rfl)
theorem infoRK : (Try.prog.info? 36).map (·.size) = some 3 := by kernel_rfl
set_option maxRecDepth 20000 in
set_option maxHeartbeats 4000000 in
theorem rpop_none (h : RefV B w H v s) (hm : s.m ≤ 1048576) (hno : ∀ z, s.th z = false) : Calls Try.prog 35 #[.pointer (some ⟨H, 0, none⟩)] w fun e w' => e = .returned (.tuple #[.int .i64 0, keyV (0, 0, 0), .int .i64 3]) ∧ Below w.heap.size w w' := by
  have HMIN : Hid (∀ W, Below w.heap.size w W → Calls Try.prog 34 #[.pointer (some ⟨H, 0, none⟩)] W fun e w' => e = .returned (.tuple #[.int .i64 0, .agg #[.int .u64 0, .int .u64 0, .int .i64 0], .int .i64 3]) ∧ Below W.heap.size W w') := fun W hb => rmin_none (h.below hb) hm hno
  unfold keyV
  clear h hm hno
  go_enter Try.func35, Try.ntmps35
  go_wp2_with fail
  refine (HMIN.out _ (by repeat (first | with_reducible assumption | with_reducible exact Below.refl _ _ | with_reducible refine Below.drew ?_ | with_reducible refine below_drewN ?_ _ | with_reducible refine below_alloc ?_ _ | with_reducible refine Below.alloc ?_ (by first | omega | (simp; done) | (simp; omega)) _ | with_reducible refine Below.setCell ?_ (by first | omega | (simp; done) | (simp; omega)) _ | with_reducible refine below_setRow ?_ (by first | omega | (simp; done) | (simp; omega)) _))).mono ?_
  rintro e w1 ⟨rfl, hb1⟩
  have hs1 := hb1.size
  simp only [World.size_alloc] at hs1
  have B1 : Below w.heap.size w w1 := Below.trans (by repeat (first | with_reducible assumption | with_reducible exact Below.refl _ _ | with_reducible refine Below.drew ?_ | with_reducible refine below_drewN ?_ _ | with_reducible refine below_alloc ?_ _ | with_reducible refine Below.alloc ?_ (by first | omega | (simp; done) | (simp; omega)) _ | with_reducible refine Below.setCell ?_ (by first | omega | (simp; done) | (simp; omega)) _ | with_reducible refine below_setRow ?_ (by first | omega | (simp; done) | (simp; omega)) _)) (hb1.mono (by first | omega | (simp; done) | (simp; omega)))
  have X1 : w1.heap[w.heap.size]? = some (.cells #[.int .u64 0, .int .u64 0, .int .i64 0] 36 (0, 0)) := below_at hb1 (by first | omega | (simp; done) | (simp; omega)) (at_of (by apply Exists.intro; refine ⟨?_, ?_⟩; (focus ((repeat (first | (with_reducible assumption) | (with_reducible exact alloc_at _ _) | ((with_reducible apply alloc_at'); (simp; done)) | (with_reducible apply alloc_at_lt) | (with_reducible apply heap_drew_at) | (with_reducible apply heap_drewN_at) | (with_reducible apply heap_setCell_same) | ((with_reducible apply heap_set_ne); (first | omega | (dsimp only; omega) | (simp; done) | (simp; omega))) | (with_reducible apply setRow_at) | ((with_reducible apply setRow_ne); (first | omega | (dsimp only; omega) | (simp; done) | (simp; omega))))))); simp))
  have q0 := (blk_cell X1 0).trans rfl
  have q1 := (blk_cell X1 1).trans rfl
  have q2 := (blk_cell X1 2).trans rfl
  have qf := blk_free X1
  have xl := lt_of_at X1
  clear hb1 HMIN
  go_upto_region 4 with (fail)
  go_region
  go_wp2
  refine ret_row3 rfl w.heap.size #[.int .u64 0, .int .u64 0, .int .i64 0] 36 _ rfl Try.underlying36 rfl infoRK rfl (by apply Exists.intro; refine ⟨?_, ?_⟩; (focus ((repeat (first | (with_reducible assumption) | (with_reducible exact alloc_at _ _) | ((with_reducible apply alloc_at'); (simp; done)) | (with_reducible apply alloc_at_lt) | (with_reducible apply heap_drew_at) | (with_reducible apply heap_drewN_at) | (with_reducible apply heap_setCell_same) | ((with_reducible apply heap_set_ne); (first | omega | (dsimp only; omega) | (simp; done) | (simp; omega))) | (with_reducible apply setRow_at) | ((with_reducible apply setRow_ne); (first | omega | (dsimp only; omega) | (simp; done) | (simp; omega))))))); simp) ⟨rfl, (by repeat (first | with_reducible assumption | with_reducible exact Below.refl _ _ | with_reducible refine Below.drew ?_ | with_reducible refine below_drewN ?_ _ | with_reducible refine below_alloc ?_ _ | with_reducible refine Below.alloc ?_ (by first | omega | (simp; done) | (simp; omega)) _ | with_reducible refine Below.setCell ?_ (by first | omega | (simp; done) | (simp; omega)) _ | with_reducible refine below_setRow ?_ (by first | omega | (simp; done) | (simp; omega)) _))⟩
set_option maxRecDepth 20000 in
set_option maxHeartbeats 4000000 in
theorem rpop_some {x : Nat} (h : RefV B w H v s) (hm : s.m ≤ 1048576) (hok : ∀ z, s.th z = true → okK (s.key z)) (hx : x < s.m) (tx : s.th x = true) (hmin : ∀ z, s.th z = true → z = x ∨ s.lt x z) :
    Calls Try.prog 35 #[.pointer (some ⟨H, 0, none⟩)] w fun e w' => e = .returned (.tuple #[.int .i64 x, keyV (s.key x), .int .i64 0]) ∧ RefV B w' H v (s.clear x) ∧ Tur (FootV H v) w w' := by
  have HMIN : Hid (∀ W, Below w.heap.size w W → Calls Try.prog 34 #[.pointer (some ⟨H, 0, none⟩)] W fun e w' => e = .returned (.tuple #[.int .i64 x, .agg #[.int .u64 (s.key x).1, .int .u64 (s.key x).2.1, .int .i64 (s.key x).2.2], .int .i64 0]) ∧ Below W.heap.size W w') := fun W hb => rmin_some (h.below hb) hm hok hx tx hmin
  obtain ⟨g, cap, rfl, hne, hgl, -, -⟩ := h.open_ (by omega)
  have hlH := h.ltH
  have HH := hid h
  have HX := hid hx
  have ix : (x : Int) < (s.m : Int) := by omega
  unfold keyV
  obtain ⟨k, hk⟩ : ∃ k : K3, k = s.key x := ⟨_, rfl⟩
  rw [← hk] at HMIN ⊢
  obtain ⟨k0, k1, k2⟩ := k
  simp only at HMIN ⊢
  clear h hm hok hx tx hmin hk
  go_enter Try.func35, Try.ntmps35
  go_wp2_with fail
  refine (HMIN.out _ (by repeat (first | with_reducible assumption | with_reducible exact Below.refl _ _ | with_reducible refine Below.drew ?_ | with_reducible refine below_drewN ?_ _ | with_reducible refine below_alloc ?_ _ | with_reducible refine Below.alloc ?_ (by first | omega | (simp; done) | (simp; omega)) _ | with_reducible refine Below.setCell ?_ (by first | omega | (simp; done) | (simp; omega)) _ | with_reducible refine below_setRow ?_ (by first | omega | (simp; done) | (simp; omega)) _))).mono ?_
  rintro e w1 ⟨rfl, hb1⟩
  have hs1 := hb1.size
  simp only [World.size_alloc] at hs1
  have B1 : Below w.heap.size w w1 := Below.trans (by repeat (first | with_reducible assumption | with_reducible exact Below.refl _ _ | with_reducible refine Below.drew ?_ | with_reducible refine below_drewN ?_ _ | with_reducible refine below_alloc ?_ _ | with_reducible refine Below.alloc ?_ (by first | omega | (simp; done) | (simp; omega)) _ | with_reducible refine Below.setCell ?_ (by first | omega | (simp; done) | (simp; omega)) _ | with_reducible refine below_setRow ?_ (by first | omega | (simp; done) | (simp; omega)) _)) (hb1.mono (by first | omega | (simp; done) | (simp; omega)))
  have X1 : w1.heap[w.heap.size]? = some (.cells #[.int .u64 0, .int .u64 0, .int .i64 0] 36 (0, 0)) := below_at hb1 (by first | omega | (simp; done) | (simp; omega)) (at_of (by apply Exists.intro; refine ⟨?_, ?_⟩; (focus ((repeat (first | (with_reducible assumption) | (with_reducible exact alloc_at _ _) | ((with_reducible apply alloc_at'); (simp; done)) | (with_reducible apply alloc_at_lt) | (with_reducible apply heap_drew_at) | (with_reducible apply heap_drewN_at) | (with_reducible apply heap_setCell_same) | ((with_reducible apply heap_set_ne); (first | omega | (dsimp only; omega) | (simp; done) | (simp; omega))) | (with_reducible apply setRow_at) | ((with_reducible apply setRow_ne); (first | omega | (dsimp only; omega) | (simp; done) | (simp; omega))))))); simp))
  clear hb1 HMIN
  go_upto_region 3 with (fail)
  refine wp_name ?_
  intro w2 hw2
  have B2 : Below w1.heap.size w1 w2 := by rw [hw2]; exact (by repeat (first | with_reducible assumption | with_reducible exact Below.refl _ _ | with_reducible refine Below.drew ?_ | with_reducible refine below_drewN ?_ _ | with_reducible refine below_alloc ?_ _ | with_reducible refine Below.alloc ?_ (by first | omega | (simp; done) | (simp; omega)) _ | with_reducible refine Below.setCell ?_ (by first | omega | (simp; done) | (simp; omega)) _ | with_reducible refine below_setRow ?_ (by first | omega | (simp; done) | (simp; omega)) _))
  have Y2 : w2.heap[w1.heap.size]? = some (.cells #[.int .u64 k0, .int .u64 k1, .int .i64 k2] 36 (0, 0)) := by rw [hw2]; exact at_of (by apply Exists.intro; refine ⟨?_, ?_⟩; (focus ((repeat (first | (with_reducible assumption) | (with_reducible exact alloc_at _ _) | ((with_reducible apply alloc_at'); (simp; done)) | (with_reducible apply alloc_at_lt) | (with_reducible apply heap_drew_at) | (with_reducible apply heap_drewN_at) | (with_reducible apply heap_setCell_same) | ((with_reducible apply heap_set_ne); (first | omega | (dsimp only; omega) | (simp; done) | (simp; omega))) | (with_reducible apply setRow_at) | ((with_reducible apply setRow_ne); (first | omega | (dsimp only; omega) | (simp; done) | (simp; omega))))))); simp)
  have X2 := below_at B2 (lt_of_at X1) X1
  have xl := lt_of_at X1
  have yl := lt_of_at Y2
  have W2 := B1.trans (B2.mono (by omega))
  have HR2 := hid (HH.out.below W2)
  obtain ⟨d0, df, -⟩ := HR2.out.head
  obtain ⟨g', cap', e, -, -, gf, hc⟩ := HR2.out.open_ (by have := HX.out; omega)
  injection e with e e7 e6
  injection e with e
  injection e with e
  subst e
  subst e6
  obtain ⟨e0, e1, e2, e3⟩ := hc x HX.out
  have HC := hid (HR2.out.cleared hne HX.out)
  have hgX : w.heap.size ≠ g := by omega
  have hgY : w1.heap.size ≠ g := by omega
  have T3 : Hid (Tur (FootV H (.slice (some ⟨g, 0, none⟩) s.m cap)) w ((((w2.setCell ⟨g, x * 4, none⟩ (.int .u64 0)).setCell ⟨g, x * 4 + 1, none⟩ (.int .u64 0)).setCell ⟨g, x * 4 + 2, none⟩ (.int .i64 0)).setCell ⟨g, x * 4 + 3, none⟩ (.bool false))) :=
    ((((Tur.of_below W2).then (Tur.set _ (.inl (.inr rfl)))).then (Tur.set _ (.inl (.inr rfl)))).then (Tur.set _ (.inl (.inr rfl)))).then (Tur.set _ (.inl (.inr rfl)))
  have X3 : Hid (((((w2.setCell ⟨g, x * 4, none⟩ (.int .u64 0)).setCell ⟨g, x * 4 + 1, none⟩ (.int .u64 0)).setCell ⟨g, x * 4 + 2, none⟩ (.int .i64 0)).setCell ⟨g, x * 4 + 3, none⟩ (.bool false)).heap[w.heap.size]? = some (.cells #[.int .u64 0, .int .u64 0, .int .i64 0] 36 (0, 0))) := heap_set_ne hgX (heap_set_ne hgX (heap_set_ne hgX (heap_set_ne hgX X2)))
  have Y3 : Hid (((((w2.setCell ⟨g, x * 4, none⟩ (.int .u64 0)).setCell ⟨g, x * 4 + 1, none⟩ (.int .u64 0)).setCell ⟨g, x * 4 + 2, none⟩ (.int .i64 0)).setCell ⟨g, x * 4 + 3, none⟩ (.bool false)).heap[w1.heap.size]? = some (.cells #[.int .u64 k0, .int .u64 k1, .int .i64 k2] 36 (0, 0))) := heap_set_ne hgY (heap_set_ne hgY (heap_set_ne hgY (heap_set_ne hgY Y2)))
  clear hw2 B2 X1 X2 Y2 hc HR2
  go_upto_region 4 with (fail)
  refine wp_name ?_
  intro w3 hw3
  rw [← hw3] at HC T3 X3 Y3
  have q0 := (blk_cell X3.out 0).trans rfl
  have q1 := (blk_cell X3.out 1).trans rfl
  have q2 := (blk_cell X3.out 2).trans rfl
  have qf := blk_free X3.out
  have p0 := (blk_cell Y3.out 0).trans rfl
  have p1 := (blk_cell Y3.out 1).trans rfl
  have p2 := (blk_cell Y3.out 2).trans rfl
  have pf := blk_free Y3.out
  have hXH : w.heap.size ≠ H := by omega
  have F : Hid (∀ W, Tur (IsAt w.heap.size) w3 W → RefV B W H (.slice (some ⟨g, 0, none⟩) s.m cap) (s.clear x) ∧ Tur (FootV H (.slice (some ⟨g, 0, none⟩) s.m cap)) w W) := fun W hT => ⟨HC.out.at fun k hk => hT.kept k (by
      rcases hk with rfl | e
      · exact HC.out.ltH
      · exact (HC.out.row.lt k e).2) (by
      rcases hk with rfl | e
      · exact fun q => hXH q.symm
      · have e2 : g = k := by injection e
        exact fun q => hgX (by rw [← q]; exact e2.symm)), T3.out.trans hT (fun k hk => .inr (by have hk2 : k = w.heap.size := hk; omega))⟩
  clear hw3 d0 df gf e0 e1 e2 e3 HC T3
  go_region
  refine then_name ?_
  intro w4 hw4
  have X4 : w4.heap[w.heap.size]? = some (.cells #[.int .u64 k0, .int .u64 k1, .int .i64 k2] 36 (0, 0)) := by
    have hX := X3.out
    rw [hw4]
    exact at_of (by apply Exists.intro; refine ⟨?_, ?_⟩; (focus ((repeat (first | (with_reducible assumption) | (with_reducible exact alloc_at _ _) | ((with_reducible apply alloc_at'); (simp; done)) | (with_reducible apply alloc_at_lt) | (with_reducible apply heap_drew_at) | (with_reducible apply heap_drewN_at) | (with_reducible apply heap_setCell_same) | ((with_reducible apply heap_set_ne); (first | omega | (dsimp only; omega) | (simp; done) | (simp; omega))) | (with_reducible apply setRow_at) | ((with_reducible apply setRow_ne); (first | omega | (dsimp only; omega) | (simp; done) | (simp; omega))))))); simp)
  have T4 : Tur (IsAt w.heap.size) w3 w4 := by
    rw [hw4]
    exact ((tur_at.then tur_at).then tur_at).then tur_drew
  have F4 := hid (F.out w4 T4)
  clear hw4
  go_wp2
  refine ret_row3 rfl w.heap.size #[.int .u64 k0, .int .u64 k1, .int .i64 k2] 36 _ rfl Try.underlying36 rfl infoRK rfl (by apply Exists.intro; refine ⟨?_, ?_⟩; (focus ((repeat (first | (with_reducible assumption) | (with_reducible exact alloc_at _ _) | ((with_reducible apply alloc_at'); (simp; done)) | (with_reducible apply alloc_at_lt) | (with_reducible apply heap_drew_at) | (with_reducible apply heap_drewN_at) | (with_reducible apply heap_setCell_same) | ((with_reducible apply heap_set_ne); (first | omega | (dsimp only; omega) | (simp; done) | (simp; omega))) | (with_reducible apply setRow_at) | ((with_reducible apply setRow_ne); (first | omega | (dsimp only; omega) | (simp; done) | (simp; omega))))))); simp) ⟨rfl, F4.out⟩
end Go.Proofs.Ythdbiablpkeagaa
