/- Chapter 8's reference heap: Delete, Decrease. -/
import Derived.Test.YthdbiablpkeagaaRfF
namespace Go.Proofs.Ythdbiablpkeagaa
open Go.RowKit
variable {B H g cap : Nat} {w w' : World} {s s' : Hp} {v : Value}
set_option maxRecDepth 20000 in
set_option maxHeartbeats 4000000 in
theorem rdelete_no (x : Int) (h : RefV B w H v s) (hx : ¬ s.has x) : Calls Try.prog 37 #[.pointer (some ⟨H, 0, none⟩), .int .i64 x] w fun e w' => e = .returned (.int .i64 3) ∧ Below w.heap.size w w' := by
  have HL : Hid (∀ W, Below w.heap.size w W → Calls Try.prog 38 #[.pointer (some ⟨H, 0, none⟩), .int .i64 x] W fun e w' => e = .returned (.tuple #[.agg #[.int .u64 0, .int .u64 0, .int .i64 0], .int .i64 3]) ∧ Below W.heap.size W w') := fun W hb => rget_no x (h.below hb) hx
  clear h hx
  go_enter Try.func37, Try.ntmps37
  go_wp2_with fail
  refine (HL.out _ (by repeat (first | with_reducible assumption | with_reducible exact Below.refl _ _ | with_reducible refine Below.drew ?_ | with_reducible refine below_drewN ?_ _ | with_reducible refine below_alloc ?_ _ | with_reducible refine Below.alloc ?_ (by first | omega | (simp; done) | (simp; omega)) _ | with_reducible refine Below.setCell ?_ (by first | omega | (simp; done) | (simp; omega)) _ | with_reducible refine below_setRow ?_ (by first | omega | (simp; done) | (simp; omega)) _))).mono ?_
  rintro e w1 ⟨rfl, hb1⟩
  have B1 : Below w.heap.size w w1 := Below.trans (by repeat (first | with_reducible assumption | with_reducible exact Below.refl _ _ | with_reducible refine Below.drew ?_ | with_reducible refine below_drewN ?_ _ | with_reducible refine below_alloc ?_ _ | with_reducible refine Below.alloc ?_ (by first | omega | (simp; done) | (simp; omega)) _ | with_reducible refine Below.setCell ?_ (by first | omega | (simp; done) | (simp; omega)) _ | with_reducible refine below_setRow ?_ (by first | omega | (simp; done) | (simp; omega)) _)) (hb1.mono (by first | omega | (simp; done) | (simp; omega)))
  go_wp2
  go_ret
  exact ⟨rfl, (by repeat (first | with_reducible assumption | with_reducible exact Below.refl _ _ | with_reducible refine Below.drew ?_ | with_reducible refine below_drewN ?_ _ | with_reducible refine below_alloc ?_ _ | with_reducible refine Below.alloc ?_ (by first | omega | (simp; done) | (simp; omega)) _ | with_reducible refine Below.setCell ?_ (by first | omega | (simp; done) | (simp; omega)) _ | with_reducible refine below_setRow ?_ (by first | omega | (simp; done) | (simp; omega)) _))⟩
set_option maxRecDepth 20000 in
set_option maxHeartbeats 4000000 in
theorem rdelete_yes (x : Nat) (h : RefV B w H v s) (hx : x < s.m) (tx : s.th x = true) : Calls Try.prog 37 #[.pointer (some ⟨H, 0, none⟩), .int .i64 x] w fun e w' => e = .returned (.int .i64 0) ∧ RefV B w' H v (s.clear x) ∧ Tur (FootV H v) w w' := by
  obtain ⟨K, hK⟩ : ∃ K : K3, K = s.key x := ⟨_, rfl⟩
  have HL : Hid (∀ W, Below w.heap.size w W → Calls Try.prog 38 #[.pointer (some ⟨H, 0, none⟩), .int .i64 x] W fun e w' => e = .returned (.tuple #[.agg #[.int .u64 K.1, .int .u64 K.2.1, .int .i64 K.2.2], .int .i64 0]) ∧ Below W.heap.size W w') := fun W hb => by
    rw [hK]; exact rget_yes (h.below hb) hx tx
  obtain ⟨g, cap, rfl, hne, hgl, -, -⟩ := h.open_ (by omega)
  have hlH := h.ltH
  have HH := hid h
  have HX := hid hx
  have ix : (x : Int) < (s.m : Int) := by omega
  clear h hx tx hK
  go_enter Try.func37, Try.ntmps37
  go_wp2_with fail
  refine (HL.out _ (by repeat (first | with_reducible assumption | with_reducible exact Below.refl _ _ | with_reducible refine Below.drew ?_ | with_reducible refine below_drewN ?_ _ | with_reducible refine below_alloc ?_ _ | with_reducible refine Below.alloc ?_ (by first | omega | (simp; done) | (simp; omega)) _ | with_reducible refine Below.setCell ?_ (by first | omega | (simp; done) | (simp; omega)) _ | with_reducible refine below_setRow ?_ (by first | omega | (simp; done) | (simp; omega)) _))).mono ?_
  rintro e w1 ⟨rfl, hb1⟩
  have B1 : Below w.heap.size w w1 := Below.trans (by repeat (first | with_reducible assumption | with_reducible exact Below.refl _ _ | with_reducible refine Below.drew ?_ | with_reducible refine below_drewN ?_ _ | with_reducible refine below_alloc ?_ _ | with_reducible refine Below.alloc ?_ (by first | omega | (simp; done) | (simp; omega)) _ | with_reducible refine Below.setCell ?_ (by first | omega | (simp; done) | (simp; omega)) _ | with_reducible refine below_setRow ?_ (by first | omega | (simp; done) | (simp; omega)) _)) (hb1.mono (by first | omega | (simp; done) | (simp; omega)))
  clear hb1 HL
  go_upto_region 3 with (fail)
  refine wp_name ?_
  intro w2 hw2
  have B2 : Below w1.heap.size w1 w2 := by rw [hw2]; exact (by repeat (first | with_reducible assumption | with_reducible exact Below.refl _ _ | with_reducible refine Below.drew ?_ | with_reducible refine below_drewN ?_ _ | with_reducible refine below_alloc ?_ _ | with_reducible refine Below.alloc ?_ (by first | omega | (simp; done) | (simp; omega)) _ | with_reducible refine Below.setCell ?_ (by first | omega | (simp; done) | (simp; omega)) _ | with_reducible refine below_setRow ?_ (by first | omega | (simp; done) | (simp; omega)) _))
  have W2 := B1.trans (B2.mono B1.size)
  have HR2 := hid (HH.out.below W2)
  obtain ⟨d0, df, -⟩ := HR2.out.head
  obtain ⟨g', cap', e, -, -, gf, hc⟩ := HR2.out.open_ (by have := HX.out; omega)
  injection e with e e7 e6
  injection e with e
  injection e with e
  subst e
  subst e6
  obtain ⟨e0, e1, e2, e3⟩ := hc x HX.out
  have HC := hid (HR2.out.cleared hne HX.out)
  have T3 : Hid (Tur (FootV H (.slice (some ⟨g, 0, none⟩) s.m cap)) w ((((w2.setCell ⟨g, x * 4, none⟩ (.int .u64 0)).setCell ⟨g, x * 4 + 1, none⟩ (.int .u64 0)).setCell ⟨g, x * 4 + 2, none⟩ (.int .i64 0)).setCell ⟨g, x * 4 + 3, none⟩ (.bool false))) :=
    ((((Tur.of_below W2).then (Tur.set _ (.inl (.inr rfl)))).then (Tur.set _ (.inl (.inr rfl)))).then (Tur.set _ (.inl (.inr rfl)))).then (Tur.set _ (.inl (.inr rfl)))
  clear hw2 B2 W2 hc HR2
  go_upto_region 4 with (fail)
  refine wp_name ?_
  intro w3 hw3
  rw [← hw3] at HC T3
  clear hw3 d0 df gf e0 e1 e2 e3
  go_wp2
  go_ret
  exact ⟨rfl, HC.out, T3.out⟩
set_option maxRecDepth 20000 in
set_option maxHeartbeats 4000000 in
theorem rdec_no (x : Int) (k : K3) (h : RefV B w H v s) (hx : ¬ s.has x) : Calls Try.prog 36 #[.pointer (some ⟨H, 0, none⟩), .int .i64 x, .agg #[.int .u64 k.1, .int .u64 k.2.1, .int .i64 k.2.2]] w fun e w' => e = .returned (.int .i64 3) ∧ Below w.heap.size w w' := by
  have HL : Hid (∀ W, Below w.heap.size w W → Calls Try.prog 38 #[.pointer (some ⟨H, 0, none⟩), .int .i64 x] W fun e w' => e = .returned (.tuple #[.agg #[.int .u64 0, .int .u64 0, .int .i64 0], .int .i64 3]) ∧ Below W.heap.size W w') := fun W hb => rget_no x (h.below hb) hx
  clear h hx
  go_enter Try.func36, Try.ntmps36
  go_wp2_with fail
  refine (HL.out _ (by repeat (first | with_reducible assumption | with_reducible exact Below.refl _ _ | with_reducible refine Below.drew ?_ | with_reducible refine below_drewN ?_ _ | with_reducible refine below_alloc ?_ _ | with_reducible refine Below.alloc ?_ (by first | omega | (simp; done) | (simp; omega)) _ | with_reducible refine Below.setCell ?_ (by first | omega | (simp; done) | (simp; omega)) _ | with_reducible refine below_setRow ?_ (by first | omega | (simp; done) | (simp; omega)) _))).mono ?_
  rintro e w1 ⟨rfl, hb1⟩
  have B1 : Below w.heap.size w w1 := Below.trans (by repeat (first | with_reducible assumption | with_reducible exact Below.refl _ _ | with_reducible refine Below.drew ?_ | with_reducible refine below_drewN ?_ _ | with_reducible refine below_alloc ?_ _ | with_reducible refine Below.alloc ?_ (by first | omega | (simp; done) | (simp; omega)) _ | with_reducible refine Below.setCell ?_ (by first | omega | (simp; done) | (simp; omega)) _ | with_reducible refine below_setRow ?_ (by first | omega | (simp; done) | (simp; omega)) _)) (hb1.mono (by first | omega | (simp; done) | (simp; omega)))
  go_wp2
  go_ret
  exact ⟨rfl, (by repeat (first | with_reducible assumption | with_reducible exact Below.refl _ _ | with_reducible refine Below.drew ?_ | with_reducible refine below_drewN ?_ _ | with_reducible refine below_alloc ?_ _ | with_reducible refine Below.alloc ?_ (by first | omega | (simp; done) | (simp; omega)) _ | with_reducible refine Below.setCell ?_ (by first | omega | (simp; done) | (simp; omega)) _ | with_reducible refine below_setRow ?_ (by first | omega | (simp; done) | (simp; omega)) _))⟩
set_option maxRecDepth 20000 in
set_option maxHeartbeats 4000000 in
theorem rdec_form (x : Nat) (k0 k2 : Int) (h : RefV B w H v s) (hx : x < s.m) (tx : s.th x = true) : Calls Try.prog 36 #[.pointer (some ⟨H, 0, none⟩), .int .i64 x, .agg #[.int .u64 k0, .int .u64 0, .int .i64 k2]] w fun e w' => e = .returned (.int .i64 4) ∧ Below w.heap.size w w' := by
  obtain ⟨K, hK⟩ : ∃ K : K3, K = s.key x := ⟨_, rfl⟩
  have HL : Hid (∀ W, Below w.heap.size w W → Calls Try.prog 38 #[.pointer (some ⟨H, 0, none⟩), .int .i64 x] W fun e w' => e = .returned (.tuple #[.agg #[.int .u64 K.1, .int .u64 K.2.1, .int .i64 K.2.2], .int .i64 0]) ∧ Below W.heap.size W w') := fun W hb => by
    rw [hK]; exact rget_yes (h.below hb) hx tx
  clear h hx tx hK
  go_enter Try.func36, Try.ntmps36
  go_wp2_with fail
  refine (HL.out _ (by repeat (first | with_reducible assumption | with_reducible exact Below.refl _ _ | with_reducible refine Below.drew ?_ | with_reducible refine below_drewN ?_ _ | with_reducible refine below_alloc ?_ _ | with_reducible refine Below.alloc ?_ (by first | omega | (simp; done) | (simp; omega)) _ | with_reducible refine Below.setCell ?_ (by first | omega | (simp; done) | (simp; omega)) _ | with_reducible refine below_setRow ?_ (by first | omega | (simp; done) | (simp; omega)) _))).mono ?_
  rintro e w1 ⟨rfl, hb1⟩
  have hs1 := hb1.size
  simp only [World.size_alloc] at hs1
  have B1 : Below w.heap.size w w1 := Below.trans (by repeat (first | with_reducible assumption | with_reducible exact Below.refl _ _ | with_reducible refine Below.drew ?_ | with_reducible refine below_drewN ?_ _ | with_reducible refine below_alloc ?_ _ | with_reducible refine Below.alloc ?_ (by first | omega | (simp; done) | (simp; omega)) _ | with_reducible refine Below.setCell ?_ (by first | omega | (simp; done) | (simp; omega)) _ | with_reducible refine below_setRow ?_ (by first | omega | (simp; done) | (simp; omega)) _)) (hb1.mono (by first | omega | (simp; done) | (simp; omega)))
  have X1 : w1.heap[w.heap.size]? = some (.cells #[.int .u64 k0, .int .u64 0, .int .i64 k2] 36 (0, 0)) := below_at hb1 (by first | omega | (simp; done) | (simp; omega)) (at_of (by apply Exists.intro; refine ⟨?_, ?_⟩; (focus ((repeat (first | (with_reducible assumption) | (with_reducible exact alloc_at _ _) | ((with_reducible apply alloc_at'); (simp; done)) | (with_reducible apply alloc_at_lt) | (with_reducible apply heap_drew_at) | (with_reducible apply heap_drewN_at) | (with_reducible apply heap_setCell_same) | ((with_reducible apply heap_set_ne); (first | omega | (dsimp only; omega) | (simp; done) | (simp; omega))) | (with_reducible apply setRow_at) | ((with_reducible apply setRow_ne); (first | omega | (dsimp only; omega) | (simp; done) | (simp; omega))))))); simp))
  have xl := lt_of_at X1
  have q1 : w1.cell? ⟨w.heap.size, 1, none⟩ = some (.int .u64 0) := (blk_cell X1 1).trans rfl
  clear hb1 X1
  go_wp2
  go_ret
  exact ⟨rfl, (by repeat (first | with_reducible assumption | with_reducible exact Below.refl _ _ | with_reducible refine Below.drew ?_ | with_reducible refine below_drewN ?_ _ | with_reducible refine below_alloc ?_ _ | with_reducible refine Below.alloc ?_ (by first | omega | (simp; done) | (simp; omega)) _ | with_reducible refine Below.setCell ?_ (by first | omega | (simp; done) | (simp; omega)) _ | with_reducible refine below_setRow ?_ (by first | omega | (simp; done) | (simp; omega)) _))⟩
set_option maxRecDepth 100000 in
set_option maxHeartbeats 8000000 in
theorem rdec_range (x : Nat) (k : K3) (h : RefV B w H v s) (hx : x < s.m) (tx : s.th x = true) (hk : okK k) (ho : okK (s.key x)) (hc : 0 < compI k (s.key x)) :
    Calls Try.prog 36 #[.pointer (some ⟨H, 0, none⟩), .int .i64 x, .agg #[.int .u64 k.1, .int .u64 k.2.1, .int .i64 k.2.2]] w fun e w' => e = .returned (.int .i64 2) ∧ Below w.heap.size w w' := by
  obtain ⟨K, hK⟩ : ∃ K : K3, K = s.key x := ⟨_, rfl⟩
  have HL : Hid (∀ W, Below w.heap.size w W → Calls Try.prog 38 #[.pointer (some ⟨H, 0, none⟩), .int .i64 x] W fun e w' => e = .returned (.tuple #[.agg #[.int .u64 K.1, .int .u64 K.2.1, .int .i64 K.2.2], .int .i64 0]) ∧ Below W.heap.size W w') := fun W hb => by
    rw [hK]; exact rget_yes (h.below hb) hx tx
  rw [← hK] at ho hc
  have hk1 : (k.2.1 == 0) = false := by have := hk.2; simp; omega
  have HC : Hid (∀ W, Calls Try.prog 12 #[.agg #[.int .u64 k.1, .int .u64 k.2.1, .int .i64 k.2.2], .agg #[.int .u64 K.1, .int .u64 K.2.1, .int .i64 K.2.2]] W fun e w' => e = .returned (.int .i64 (compI k K)) ∧ Below W.heap.size W w') := fun W => comp_g k K W hk.wd ho.wd
  obtain ⟨g, cap, rfl, hne, hgl, -, -⟩ := h.open_ (by omega)
  have hlH := h.ltH
  have HH := hid h
  have HX := hid hx
  have ix : (x : Int) < (s.m : Int) := by omega
  obtain ⟨k0, k1, k2⟩ := k
  simp only at HC hk1 ⊢
  generalize compI (k0, k1, k2) K = cc at *
  clear h hx tx hK hk ho
  go_enter Try.func36, Try.ntmps36
  go_wp2_with fail
  refine (HL.out _ (by repeat (first | with_reducible assumption | with_reducible exact Below.refl _ _ | with_reducible refine Below.drew ?_ | with_reducible refine below_drewN ?_ _ | with_reducible refine below_alloc ?_ _ | with_reducible refine Below.alloc ?_ (by first | omega | (simp; done) | (simp; omega)) _ | with_reducible refine Below.setCell ?_ (by first | omega | (simp; done) | (simp; omega)) _ | with_reducible refine below_setRow ?_ (by first | omega | (simp; done) | (simp; omega)) _))).mono ?_
  rintro e w1 ⟨rfl, hb1⟩
  have hs1 := hb1.size
  simp only [World.size_alloc] at hs1
  have B1 : Below w.heap.size w w1 := Below.trans (by repeat (first | with_reducible assumption | with_reducible exact Below.refl _ _ | with_reducible refine Below.drew ?_ | with_reducible refine below_drewN ?_ _ | with_reducible refine below_alloc ?_ _ | with_reducible refine Below.alloc ?_ (by first | omega | (simp; done) | (simp; omega)) _ | with_reducible refine Below.setCell ?_ (by first | omega | (simp; done) | (simp; omega)) _ | with_reducible refine below_setRow ?_ (by first | omega | (simp; done) | (simp; omega)) _)) (hb1.mono (by first | omega | (simp; done) | (simp; omega)))
  have X1 : w1.heap[w.heap.size]? = some (.cells #[.int .u64 k0, .int .u64 k1, .int .i64 k2] 36 (0, 0)) := below_at hb1 (by first | omega | (simp; done) | (simp; omega)) (at_of (by apply Exists.intro; refine ⟨?_, ?_⟩; (focus ((repeat (first | (with_reducible assumption) | (with_reducible exact alloc_at _ _) | ((with_reducible apply alloc_at'); (simp; done)) | (with_reducible apply alloc_at_lt) | (with_reducible apply heap_drew_at) | (with_reducible apply heap_drewN_at) | (with_reducible apply heap_setCell_same) | ((with_reducible apply heap_set_ne); (first | omega | (dsimp only; omega) | (simp; done) | (simp; omega))) | (with_reducible apply setRow_at) | ((with_reducible apply setRow_ne); (first | omega | (dsimp only; omega) | (simp; done) | (simp; omega))))))); simp))
  have xl := lt_of_at X1
  have p0 : w1.cell? ⟨w.heap.size, 0, none⟩ = some (.int .u64 k0) := (blk_cell X1 0).trans rfl
  have p1 : w1.cell? ⟨w.heap.size, 1, none⟩ = some (.int .u64 k1) := (blk_cell X1 1).trans rfl
  have p2 : w1.cell? ⟨w.heap.size, 2, none⟩ = some (.int .i64 k2) := (blk_cell X1 2).trans rfl
  clear hb1 HL
  go_wp2_with fail
  refine (HC.out _).mono ?_
  rintro e w2 ⟨rfl, hb2⟩
  have b2 : Below w1.heap.size w1 w2 := Below.trans (by repeat (first | with_reducible assumption | with_reducible exact Below.refl _ _ | with_reducible refine Below.drew ?_ | with_reducible refine below_drewN ?_ _ | with_reducible refine below_alloc ?_ _ | with_reducible refine Below.alloc ?_ (by first | omega | (simp; done) | (simp; omega)) _ | with_reducible refine Below.setCell ?_ (by first | omega | (simp; done) | (simp; omega)) _ | with_reducible refine below_setRow ?_ (by first | omega | (simp; done) | (simp; omega)) _)) (hb2.mono (by first | omega | (simp; done) | (simp; omega)))
  have X2 := below_at b2 xl X1
  have W2 := B1.trans (b2.mono B1.size)
  have HR2 := hid (HH.out.below W2)
  have HW2 := hid W2
  clear hb2 b2 X1 p0 p1 p2 HC B1 W2 xl hs1
  go_wp2
  go_ret
  exact ⟨rfl, HW2.out⟩
set_option maxRecDepth 100000 in
set_option maxHeartbeats 8000000 in
theorem rdec_ok (x : Nat) (k : K3) (h : RefV B w H v s) (hx : x < s.m) (tx : s.th x = true) (hk : okK k) (ho : okK (s.key x)) (hc : ¬ 0 < compI k (s.key x)) :
    Calls Try.prog 36 #[.pointer (some ⟨H, 0, none⟩), .int .i64 x, .agg #[.int .u64 k.1, .int .u64 k.2.1, .int .i64 k.2.2]] w fun e w' => e = .returned (.int .i64 0) ∧ RefV B w' H v (s.setK x k) ∧ Tur (FootV H v) w w' := by
  obtain ⟨K, hK⟩ : ∃ K : K3, K = s.key x := ⟨_, rfl⟩
  have HL : Hid (∀ W, Below w.heap.size w W → Calls Try.prog 38 #[.pointer (some ⟨H, 0, none⟩), .int .i64 x] W fun e w' => e = .returned (.tuple #[.agg #[.int .u64 K.1, .int .u64 K.2.1, .int .i64 K.2.2], .int .i64 0]) ∧ Below W.heap.size W w') := fun W hb => by
    rw [hK]; exact rget_yes (h.below hb) hx tx
  rw [← hK] at ho hc
  have hk1 : (k.2.1 == 0) = false := by have := hk.2; simp; omega
  have HC : Hid (∀ W, Calls Try.prog 12 #[.agg #[.int .u64 k.1, .int .u64 k.2.1, .int .i64 k.2.2], .agg #[.int .u64 K.1, .int .u64 K.2.1, .int .i64 K.2.2]] W fun e w' => e = .returned (.int .i64 (compI k K)) ∧ Below W.heap.size W w') := fun W => comp_g k K W hk.wd ho.wd
  obtain ⟨g, cap, rfl, hne, hgl, -, -⟩ := h.open_ (by omega)
  have hlH := h.ltH
  have HH := hid h
  have HX := hid hx
  have ix : (x : Int) < (s.m : Int) := by omega
  obtain ⟨k0, k1, k2⟩ := k
  simp only at HC hk1 ⊢
  generalize compI (k0, k1, k2) K = cc at *
  clear h hx tx hK hk ho
  go_enter Try.func36, Try.ntmps36
  go_wp2_with fail
  refine (HL.out _ (by repeat (first | with_reducible assumption | with_reducible exact Below.refl _ _ | with_reducible refine Below.drew ?_ | with_reducible refine below_drewN ?_ _ | with_reducible refine below_alloc ?_ _ | with_reducible refine Below.alloc ?_ (by first | omega | (simp; done) | (simp; omega)) _ | with_reducible refine Below.setCell ?_ (by first | omega | (simp; done) | (simp; omega)) _ | with_reducible refine below_setRow ?_ (by first | omega | (simp; done) | (simp; omega)) _))).mono ?_
  rintro e w1 ⟨rfl, hb1⟩
  have hs1 := hb1.size
  simp only [World.size_alloc] at hs1
  have B1 : Below w.heap.size w w1 := Below.trans (by repeat (first | with_reducible assumption | with_reducible exact Below.refl _ _ | with_reducible refine Below.drew ?_ | with_reducible refine below_drewN ?_ _ | with_reducible refine below_alloc ?_ _ | with_reducible refine Below.alloc ?_ (by first | omega | (simp; done) | (simp; omega)) _ | with_reducible refine Below.setCell ?_ (by first | omega | (simp; done) | (simp; omega)) _ | with_reducible refine below_setRow ?_ (by first | omega | (simp; done) | (simp; omega)) _)) (hb1.mono (by first | omega | (simp; done) | (simp; omega)))
  have X1 : w1.heap[w.heap.size]? = some (.cells #[.int .u64 k0, .int .u64 k1, .int .i64 k2] 36 (0, 0)) := below_at hb1 (by first | omega | (simp; done) | (simp; omega)) (at_of (by apply Exists.intro; refine ⟨?_, ?_⟩; (focus ((repeat (first | (with_reducible assumption) | (with_reducible exact alloc_at _ _) | ((with_reducible apply alloc_at'); (simp; done)) | (with_reducible apply alloc_at_lt) | (with_reducible apply heap_drew_at) | (with_reducible apply heap_drewN_at) | (with_reducible apply heap_setCell_same) | ((with_reducible apply heap_set_ne); (first | omega | (dsimp only; omega) | (simp; done) | (simp; omega))) | (with_reducible apply setRow_at) | ((with_reducible apply setRow_ne); (first | omega | (dsimp only; omega) | (simp; done) | (simp; omega))))))); simp))
  have xl := lt_of_at X1
  have p0 : w1.cell? ⟨w.heap.size, 0, none⟩ = some (.int .u64 k0) := (blk_cell X1 0).trans rfl
  have p1 : w1.cell? ⟨w.heap.size, 1, none⟩ = some (.int .u64 k1) := (blk_cell X1 1).trans rfl
  have p2 : w1.cell? ⟨w.heap.size, 2, none⟩ = some (.int .i64 k2) := (blk_cell X1 2).trans rfl
  clear hb1 HL
  go_wp2_with fail
  refine (HC.out _).mono ?_
  rintro e w2 ⟨rfl, hb2⟩
  have b2 : Below w1.heap.size w1 w2 := Below.trans (by repeat (first | with_reducible assumption | with_reducible exact Below.refl _ _ | with_reducible refine Below.drew ?_ | with_reducible refine below_drewN ?_ _ | with_reducible refine below_alloc ?_ _ | with_reducible refine Below.alloc ?_ (by first | omega | (simp; done) | (simp; omega)) _ | with_reducible refine Below.setCell ?_ (by first | omega | (simp; done) | (simp; omega)) _ | with_reducible refine below_setRow ?_ (by first | omega | (simp; done) | (simp; omega)) _)) (hb2.mono (by first | omega | (simp; done) | (simp; omega)))
  have X2 := below_at b2 xl X1
  have W2 := B1.trans (b2.mono B1.size)
  have HR2 := hid (HH.out.below W2)
  have HW2 := hid W2
  clear hb2 b2 X1 p0 p1 p2 HC B1 W2 xl hs1
  have xl := lt_of_at X2
  have q0 : w2.cell? ⟨w.heap.size, 0, none⟩ = some (.int .u64 k0) := (blk_cell X2 0).trans rfl
  have q1 : w2.cell? ⟨w.heap.size, 1, none⟩ = some (.int .u64 k1) := (blk_cell X2 1).trans rfl
  have q2 : w2.cell? ⟨w.heap.size, 2, none⟩ = some (.int .i64 k2) := (blk_cell X2 2).trans rfl
  have qf := blk_free X2
  obtain ⟨d0, df, -⟩ := HR2.out.head
  obtain ⟨g', cap', e, -, -, gf, hcl⟩ := HR2.out.open_ (by have := HX.out; omega)
  injection e with e e7 e6
  injection e with e
  injection e with e
  subst e
  subst e6
  obtain ⟨e0, e1, e2, e3⟩ := hcl x HX.out
  have HK5 : Hid (RefV B (((w2.setCell ⟨g, x * 4, none⟩ (.int .u64 k0)).setCell ⟨g, x * 4 + 1, none⟩ (.int .u64 k1)).setCell ⟨g, x * 4 + 2, none⟩ (.int .i64 k2)).drew H (.slice (some ⟨g, 0, none⟩) s.m cap) (s.setK x (k0, k1, k2)) ∧ Tur (FootV H (.slice (some ⟨g, 0, none⟩) s.m cap)) w (((w2.setCell ⟨g, x * 4, none⟩ (.int .u64 k0)).setCell ⟨g, x * 4 + 1, none⟩ (.int .u64 k1)).setCell ⟨g, x * 4 + 2, none⟩ (.int .i64 k2)).drew) :=
    ⟨(HR2.out.keyed hne HX.out (k0, k1, k2)).below (by repeat (first | with_reducible assumption | with_reducible exact Below.refl _ _ | with_reducible refine Below.drew ?_ | with_reducible refine below_drewN ?_ _ | with_reducible refine below_alloc ?_ _ | with_reducible refine Below.alloc ?_ (by first | omega | (simp; done) | (simp; omega)) _ | with_reducible refine Below.setCell ?_ (by first | omega | (simp; done) | (simp; omega)) _ | with_reducible refine below_setRow ?_ (by first | omega | (simp; done) | (simp; omega)) _)), ((((Tur.of_below HW2.out).then (Tur.set _ (.inl (.inr rfl)))).then (Tur.set _ (.inl (.inr rfl)))).then (Tur.set _ (.inl (.inr rfl)))).then (Tur.drew_ _ _)⟩
  clear hcl HR2 X2
  go_upto_region 8 with (fail)
  clear hc
  go_region
  refine then_name ?_
  intro w5 hw5
  rw [← hw5] at HK5
  clear hw5 d0 df gf e0 e1 e2 e3 q0 q1 q2 qf
  go_wp2
  go_ret
  exact ⟨rfl, HK5.out.1, HK5.out.2⟩
end Go.Proofs.Ythdbiablpkeagaa
