/- Chapter 8's less, root, under and ring over the heap in memory. -/
import Derived.Test.YteccpjijlkjneaaFbM
import Derived.Test.YteccpjijlkjneaaFbR
import Derived.Deep.LoopGhost
import Derived.Deep.AppendLies
namespace Go.Proofs.Yteccpjijlkjneaa
open Go.RowKit
variable {B H g cap : Nat} {w w' : World} {s s' : Hp} {least n : Int}
theorem cmpZ_neg_iff {a b : Int} : cmpZ a b < 0 ↔ a < b := by unfold cmpZ; split <;> (try split) <;> omega
theorem cmpZ_zero_iff {a b : Int} : cmpZ a b = 0 ↔ a = b := by unfold cmpZ; split <;> (try split) <;> omega
theorem less_val (k l : K3) (a b : Nat) : or3I (cmpZ (k.1 * l.2.1) (l.1 * k.2.1)) (cmpZ k.2.2 l.2.2) (cmpZ (a : Int) (b : Int)) < 0 ↔ Ltk k a l b := by
  unfold or3I Ltk
  by_cases h1 : cmpZ (k.1 * l.2.1) (l.1 * k.2.1) = 0
  · rw [if_neg (by simp [h1])]
    have e1 := cmpZ_zero_iff.1 h1
    by_cases h2 : cmpZ k.2.2 l.2.2 = 0
    · rw [if_neg (by simp [h2]), cmpZ_neg_iff]
      have e2 := cmpZ_zero_iff.1 h2
      omega
    · rw [if_pos (by simp [h2]), cmpZ_neg_iff]
      have e2 : ¬ k.2.2 = l.2.2 := fun e => h2 (cmpZ_zero_iff.2 e)
      omega
  · rw [if_pos (by simp [h1]), cmpZ_neg_iff]
    have e1 : ¬ k.1 * l.2.1 = l.1 * k.2.1 := fun e => h1 (cmpZ_zero_iff.2 e)
    omega
def Hp.ltB (s : Hp) (a b : Nat) : Bool := decide (s.lt a b)
set_option maxRecDepth 20000 in
set_option maxHeartbeats 4000000 in
theorem less_g (a b : Nat) (h : HeapG B w H g cap s least n) (ha : a < s.m) (hb : b < s.m) (ka : okK (s.key a)) (kb : okK (s.key b)) :
    Calls Try.prog 61 #[.pointer (some ⟨H, 0, none⟩), .int .i64 a, .int .i64 b] w fun e w' => e = .returned (.bool (s.ltB a b)) ∧ Below w.heap.size w w' := by
  obtain ⟨c0, -, -, cf⟩ := h.head
  obtain ⟨a0, a1, a2, -⟩ := h.cells ha
  obtain ⟨b0, b1, b2, -⟩ := h.cells hb
  have ia : (a : Int) < (s.m : Int) := by omega
  have ib : (b : Int) < (s.m : Int) := by omega
  have hlH := h.ltH
  have hlg := h.ltg
  have D : Hid (decide (or3I (cmpZ ((s.key a).1 * (s.key b).2.1) ((s.key b).1 * (s.key a).2.1)) (cmpZ (s.key a).2.2 (s.key b).2.2) (cmpZ (a : Int) (b : Int)) < 0) = s.ltB a b) := by
    unfold Hid Hp.ltB
    rw [decide_eq_decide]
    exact less_val (s.key a) (s.key b) a b
  generalize s.ltB a b = q at D ⊢
  generalize s.key a = k at *
  generalize s.key b = l at *
  obtain ⟨k0, k1, k2⟩ := k
  obtain ⟨l0, l1, l2⟩ := l
  obtain ⟨⟨p0, p1, p2⟩, p3⟩ := ka
  obtain ⟨⟨q0, q1, q2⟩, q3⟩ := kb
  simp only at D a0 a1 a2 b0 b1 b2 p0 p1 p2 p3 q0 q1 q2 q3
  have HC : Hid (∀ W, Calls Try.prog 32 #[.agg #[.int .u64 k0, .int .u64 k1], .agg #[.int .u64 l0, .int .u64 l1]] W fun e w' => e = .returned (.tuple #[.int .i64 (cmpZ (k0 * l1) (l0 * k1)), .int .i64 0]) ∧ Below W.heap.size W w') := fun W => by
    have := cmpR_any k0 k1 l0 l1 W p0 p1 (by omega) p2 q0 q1 (by omega) q2
    unfold cmpR at this
    rw [if_neg (by omega)] at this
    exact this
  clear h ha hb p0 p1 p2 p3 q0 q1 q2 q3
  generalize cmpZ (k0 * l1) (l0 * k1) = c1 at HC D
  generalize s.m = m at *
  go_enter Try.func61, Try.ntmps61
  go_wp2
  go_region_held3 (fun w' => w'.cell? ⟨H, 0, none⟩ = some (.slice (some ⟨g, 0, none⟩) m cap) ∧ w'.cell? ⟨g, a * 10, none⟩ = some (.int .u64 k0) ∧ w'.cell? ⟨g, a * 10 + 1, none⟩ = some (.int .u64 k1) ∧ w'.cell? ⟨g, a * 10 + 2, none⟩ = some (.int .i64 k2) ∧ w'.cell? ⟨g, b * 10, none⟩ = some (.int .u64 l0) ∧ w'.cell? ⟨g, b * 10 + 1, none⟩ = some (.int .u64 l1) ∧ w'.cell? ⟨g, b * 10 + 2, none⟩ = some (.int .i64 l2)) (go_keep) (fail)
  all_goals
    clear a0 a1 a2 b0 b1 b2 c0 cf
    go_wp2_with fail
    refine (HC.out _).mono ?_
    rintro e w2 ⟨rfl, hb2⟩
    have hs2 := hb2.size
    simp only [World.size_alloc, heap_drew] at hs2
    have B2 : Below w.heap.size w w2 := Below.trans (by repeat (first | with_reducible assumption | with_reducible exact Below.refl _ _ | with_reducible refine Below.drew ?_ | with_reducible refine below_drewN ?_ _ | with_reducible refine below_alloc ?_ _ | with_reducible refine Below.alloc ?_ (by first | omega | (simp; done) | (simp; omega)) _ | with_reducible refine Below.setCell ?_ (by first | omega | (simp; done) | (simp; omega)) _ | with_reducible refine below_setRow ?_ (by first | omega | (simp; done) | (simp; omega)) _)) (hb2.mono (by first | omega | (simp; done) | (simp; omega)))
    obtain ⟨hc2, hf2⟩ := bcell hb2
    clear hb2
    go_wp2_with fail
    refine (cmpT_any _ _ _).mono ?_
    rintro e w3 ⟨rfl, rfl⟩
    go_wp2_with fail
    refine (cmpN_any _ _ _).mono ?_
    rintro e w3 ⟨rfl, rfl⟩
    go_wp2_with fail
    refine (or3' _ c1 (cmpZ k2 l2) (cmpZ (a : Int) (b : Int)) _ (by (repeat (first | (with_reducible assumption) | (with_reducible exact alloc_at _ _) | ((with_reducible apply alloc_at'); (simp; done)) | (with_reducible apply alloc_at_lt) | (with_reducible apply heap_drew_at) | (with_reducible apply heap_drewN_at) | (with_reducible apply heap_setCell_same) | ((with_reducible apply heap_set_ne); (first | omega | (dsimp only; omega) | (simp; done) | (simp; omega))) | (with_reducible apply setRow_at) | ((with_reducible apply setRow_ne); (first | omega | (dsimp only; omega) | (simp; done) | (simp; omega))))))).mono ?_
    rintro e w3 ⟨rfl, rfl⟩
    obtain rfl := D.out
    go_wp2
    go_ret
    exact ⟨rfl, (by repeat (first | with_reducible assumption | with_reducible exact Below.refl _ _ | with_reducible refine Below.drew ?_ | with_reducible refine below_drewN ?_ _ | with_reducible refine below_alloc ?_ _ | with_reducible refine Below.alloc ?_ (by first | omega | (simp; done) | (simp; omega)) _ | with_reducible refine Below.setCell ?_ (by first | omega | (simp; done) | (simp; omega)) _ | with_reducible refine below_setRow ?_ (by first | omega | (simp; done) | (simp; omega)) _))⟩
set_option maxRecDepth 20000 in
set_option maxHeartbeats 4000000 in
theorem root_g (x : Nat) (h : HeapG B w H g cap s least n) (hx : x < s.m) (hm : s.m ≤ 1048576) (kx : okK (s.key x))
    (hsp : least = 0 ∨ ∃ y r : Nat, least = (y : Int) + 1 ∧ y < s.m ∧ r < s.m ∧ s.rt y = (r : Int) ∧ x ≠ y ∧ x ≠ r ∧ okK (s.key y)) :
    Calls Try.prog 37 #[.pointer (some ⟨H, 0, none⟩), .int .i64 x] w fun e w' => e = .returned (.tuple #[]) ∧ HeapG B w' H g cap (s.rootS least x) (s.rootL least x) n ∧ Tur (FootG H g) w w' := by
  obtain ⟨c0, c1, -, cf⟩ := h.head
  obtain ⟨-, -, -, x3, -, x5, x6, -, x8, -⟩ := h.cells hx
  have gf := h.free
  have ix : (x : Int) < (s.m : Int) := by omega
  have hne := h.ne
  have hne' := Ne.symm hne
  have h2 : HeapG B ((w.setCell ⟨g, x * 10 + 3, none⟩ (.int .i64 (-1))).setCell ⟨g, x * 10 + 8, none⟩ (.bool false)) H g cap { s with par := up s.par x (-1), mr := up s.mr x false } least n :=
    (h.set hx (by omega) (upd_par s x (-1))).set hx (by omega) (upd_mr _ x false)
  have t2 : Tur (FootG H g) w ((w.setCell ⟨g, x * 10 + 3, none⟩ (.int .i64 (-1))).setCell ⟨g, x * 10 + 8, none⟩ (.bool false)) := (tur_g (w := w)).then tur_g
  have b1 : ∀ W v, (World.setCell W ⟨g, x * 10 + 3, none⟩ v).cell? ⟨H, 0, none⟩ = W.cell? ⟨H, 0, none⟩ := fun W v => setb_ne hne
  have b2 : ∀ W v, (World.setCell W ⟨g, x * 10 + 3, none⟩ v).cell? ⟨H, 1, none⟩ = W.cell? ⟨H, 1, none⟩ := fun W v => setb_ne hne
  have b3 : ∀ W v, (World.setCell W ⟨g, x * 10 + 8, none⟩ v).cell? ⟨H, 0, none⟩ = W.cell? ⟨H, 0, none⟩ := fun W v => setb_ne hne
  have b4 : ∀ W v, (World.setCell W ⟨g, x * 10 + 8, none⟩ v).cell? ⟨H, 1, none⟩ = W.cell? ⟨H, 1, none⟩ := fun W v => setb_ne hne
  have HX := hid hx
  have HM := hid hm
  rcases hsp with rfl | ⟨y, r, rfl, hy, hr, hrt, hxy, hxr, ky⟩
  · have es : s.rootS 0 x = { s with par := up s.par x (-1), mr := up s.mr x false, lf := up s.lf x (x : Int), rt := up s.rt x (x : Int) } := if_pos rfl
    have el : s.rootL 0 x = (x : Int) + 1 := if_pos rfl
    rw [es, el]
    have H2 := hid h2
    have T2 := hid t2
    clear h h2 t2 hx es el
    go_enter Try.func37, Try.ntmps37
    go_upto_region 3 with (fail)
    refine wp_name ?_
    intro w3 hw3
    rw [← hw3] at H2 T2
    obtain ⟨d0, d1, -, df⟩ := H2.out.head
    obtain ⟨-, -, -, -, -, z5, z6, -, -, -⟩ := H2.out.cells (i := x) HX.out
    simp only at d0 z5 z6
    have zf := H2.out.free
    clear hw3 b1 b2 b3 b4 c0 c1 cf x3 x5 x6 x8 gf
    go_region_held3 (fun w' => w'.cell? ⟨H, 0, none⟩ = some (.slice (some ⟨g, 0, none⟩) s.m cap)) (go_keep) (fail)
    all_goals
      have i2 : (x : Int) ≤ 1048576 := by have := HX.out; have := HM.out; omega
      go_wp2
      refine bodyPost_ret (results_none rfl _ _ _) rfl ⟨rfl, (((H2.out.set HX.out (by omega) (upd_lf _ x (x : Int))).set HX.out (by omega) (upd_rt _ x (x : Int))).setL _).at rfl rfl, ?_⟩
      exact ((((T2.out.then tur_g).then tur_g).then tur_h).then ⟨rfl, by simp, rfl, Nat.le_refl _, fun _ _ _ => rfl⟩)
  · have es : s.rootS ((y : Int) + 1) x = ({ s with par := up s.par x (-1), mr := up s.mr x false } : Hp).joinS x y r := by
      unfold Hp.rootS
      rw [if_neg (by omega), show ((y : Int) + 1 - 1).toNat = y by omega, show (y : Int) + 1 - 1 = (y : Int) by omega, hrt, Int.toNat_natCast]
      rfl
    have el : s.rootL ((y : Int) + 1) x = if s.ltB x y then (x : Int) + 1 else (y : Int) + 1 := by
      unfold Hp.rootL Hp.ltB
      rw [if_neg (by omega), show ((y : Int) + 1 - 1).toNat = y by omega]
      simp
    rw [es]
    have EL := hid el
    generalize s.rootL ((y : Int) + 1) x = z at EL ⊢
    have HXY := hid hxy
    have HXR := hid hxr
    have HKX := hid kx
    have HKY := hid ky
    have HYM := hid hy
    have HRM := hid hr
    have HRT := hid hrt
    have H2 := hid h2
    have T2 := hid t2
    have i2 : (x : Int) ≤ 1048576 := by omega
    have i3 : (y : Int) ≤ 1048576 := by omega
    have i4 : ((y : Int) + 1 == 0) = false := by simp; omega
    have i5 : IntKind.i64.wrap ((y : Int) + 1 - 1) = (y : Int) := by rw [show (y : Int) + 1 - 1 = (y : Int) by omega]; exact IntWalk.i64_in _ (by omega)
    clear h h2 t2 hx es el hxy hxr ky kx hy hr hrt hm
    go_enter Try.func37, Try.ntmps37
    go_upto_region 5 with (fail)
    refine wp_name ?_
    intro w3 hw3
    rw [← hw3] at H2 T2
    obtain ⟨d0, d1, -, df⟩ := H2.out.head
    clear hw3 b1 b2 b3 b4 c0 c1 cf x3 x5 x6 x8 gf
    go_wp2_with fail
    refine (join_g x y r H2.out HX.out HYM.out HRM.out HRT.out HXY.out HXR.out).mono ?_
    rintro e w4 ⟨rfl, h4, t4⟩
    have H4 := hid h4
    have T4 := hid (T2.out.then t4)
    obtain ⟨d0, d1, -, df⟩ := h4.head
    clear h4 t4
    go_wp2_with fail
    refine (less_g x y H4.out HX.out HYM.out HKX.out HKY.out).mono ?_
    rintro e w5 ⟨rfl, hb5⟩
    have h5 := H4.out.below hb5
    have T5 := hid (T4.out.then (Tur.of_below hb5))
    obtain ⟨d0, d1, -, df⟩ := h5.head
    have H5 := hid h5
    clear h5 hb5
    have E : Hid ((({ s with par := up s.par x (-1), mr := up s.mr x false } : Hp).joinS x y r).ltB x y = s.ltB x y) := rfl
    rw [E.out]
    cases hq : s.ltB x y with
    | true =>
      have ez : z = (x : Int) + 1 := by rw [EL.out, hq]; rfl
      subst ez
      clear hq
      go_wp2
      go_end0
      exact ⟨rfl, H5.out.setL _, T5.out.then tur_h⟩
    | false =>
      have ez : z = (y : Int) + 1 := by rw [EL.out, hq]; rfl
      subst ez
      clear hq
      go_wp2
      go_end0
      exact ⟨rfl, H5.out, T5.out⟩
set_option maxRecDepth 20000 in
set_option maxHeartbeats 4000000 in
theorem under_g (y x : Nat) (h : HeapG B w H g cap s least n) (hx : x < s.m) (hy : y < s.m) (hm : s.m ≤ 1048576) (_hxy : x ≠ y) (hdg : 0 ≤ s.dg x ∧ s.dg x ≤ 1048576)
    (hsp : s.ch x = -1 ∨ ∃ c r : Nat, s.ch x = (c : Int) ∧ c < s.m ∧ r < s.m ∧ s.rt c = (r : Int) ∧ y ≠ c ∧ y ≠ r) :
    Calls Try.prog 62 #[.pointer (some ⟨H, 0, none⟩), .int .i64 y, .int .i64 x] w fun e w' => e = .returned (.tuple #[]) ∧ HeapG B w' H g cap (s.underS y x) least n ∧ Tur (FootG H g) w w' := by
  obtain ⟨c0, -, -, cf⟩ := h.head
  obtain ⟨-, -, -, y3, -, y5, y6, -, -, -⟩ := h.cells hy
  obtain ⟨-, -, -, -, x4, -, -, x7, -, -⟩ := h.cells hx
  have gf := h.free
  have ix : (x : Int) < (s.m : Int) := by omega
  have iy : (y : Int) < (s.m : Int) := by omega
  have HD := hid hdg
  have h2 : HeapG B (((w.setCell ⟨g, y * 10 + 3, none⟩ (.int .i64 x)).setCell ⟨g, y * 10 + 5, none⟩ (.int .i64 y)).setCell ⟨g, y * 10 + 6, none⟩ (.int .i64 y)) H g cap { s with par := up s.par y (x : Int), lf := up s.lf y (y : Int), rt := up s.rt y (y : Int) } least n :=
    ((h.set hy (by omega) (upd_par s y (x : Int))).set hy (by omega) (upd_lf _ y (y : Int))).set hy (by omega) (upd_rt _ y (y : Int))
  have t2 : Tur (FootG H g) w (((w.setCell ⟨g, y * 10 + 3, none⟩ (.int .i64 x)).setCell ⟨g, y * 10 + 5, none⟩ (.int .i64 y)).setCell ⟨g, y * 10 + 6, none⟩ (.int .i64 y)) := ((tur_g (w := w)).then tur_g).then tur_g
  have b1 : ∀ W v, (World.setCell W ⟨g, y * 10 + 3, none⟩ v).cell? ⟨g, x * 10 + 4, none⟩ = W.cell? ⟨g, x * 10 + 4, none⟩ := fun W v => setc_ne (by omega)
  have b2 : ∀ W v, (World.setCell W ⟨g, y * 10 + 5, none⟩ v).cell? ⟨g, x * 10 + 4, none⟩ = W.cell? ⟨g, x * 10 + 4, none⟩ := fun W v => setc_ne (by omega)
  have b3 : ∀ W v, (World.setCell W ⟨g, y * 10 + 6, none⟩ v).cell? ⟨g, x * 10 + 4, none⟩ = W.cell? ⟨g, x * 10 + 4, none⟩ := fun W v => setc_ne (by omega)
  have HX := hid hx
  have HY := hid hy
  have HM := hid hm
  have H2 := hid h2
  have T2 := hid t2
  have jw : IntKind.i64.wrap (s.dg x + 1) = s.dg x + 1 := IntWalk.i64_in _ (by omega)
  rcases hsp with hch | ⟨c, r, hch, hc, hr, hrt, hyc, hyr⟩
  · have es : s.underS y x = { s with par := up s.par y (x : Int), lf := up s.lf y (y : Int), rt := up s.rt y (y : Int), ch := up s.ch x (y : Int), dg := up s.dg x (s.dg x + 1) } := if_pos hch
    rw [es]
    rw [hch] at x4
    clear h h2 t2 hx hy es hdg hm hch
    go_enter Try.func62, Try.ntmps62
    go_upto_region 4 with (fail)
    refine wp_name ?_
    intro w3 hw3
    rw [← hw3] at H2 T2
    obtain ⟨-, -, -, -, z4, -, -, z7, -, -⟩ := H2.out.cells (i := x) HX.out
    simp only at z4 z7
    have zf := H2.out.free
    clear hw3 b1 b2 b3 c0 cf y3 y5 y6 x4 x7 gf
    go_wp2
    go_end0
    exact ⟨rfl, (H2.out.set HX.out (by omega) (upd_ch _ x (y : Int))).set HX.out (by omega) (upd_dg _ x (s.dg x + 1)), (T2.out.then tur_g).then tur_g⟩
  · have hcy : c ≠ y := Ne.symm hyc
    obtain ⟨S4, hS4⟩ : ∃ S4, S4 = (({ s with par := up s.par y (x : Int), lf := up s.lf y (y : Int), rt := up s.rt y (y : Int) } : Hp).joinS y c r) := ⟨_, rfl⟩
    have es : s.underS y x = { S4 with dg := up S4.dg x (S4.dg x + 1) } := by
      rw [hS4]
      unfold Hp.underS
      rw [if_neg (by rw [hch]; omega), hch, Int.toNat_natCast, hrt, Int.toNat_natCast]
      rfl
    rw [es]
    rw [hch] at x4
    have HS4 := hid hS4
    have HCH := hid hch
    have ED : S4.dg x = s.dg x := by rw [hS4]; rfl
    rw [← ED] at jw
    clear hS4 ED
    have HC := hid hc
    have HR := hid hr
    have HYC := hid hyc
    have HYR := hid hyr
    have HRT : Hid (up s.rt y (y : Int) c = (r : Int)) := by unfold Hid; rw [up_ne _ _ hcy]; exact hrt
    have i4 : ((c : Int) == -1) = false := by simp
    clear h h2 t2 hx hy es hdg hm hch hc hr hrt hyc hyr hcy
    go_enter Try.func62, Try.ntmps62
    go_upto_region 5 with (fail)
    refine wp_name ?_
    intro w3 hw3
    rw [← hw3] at H2 T2
    obtain ⟨-, -, -, -, z4, -, -, z7, -, -⟩ := H2.out.cells (i := x) HX.out
    simp only at z4 z7
    rw [HCH.out] at z4
    clear hw3 b1 b2 b3 c0 cf y3 y5 y6 x4 x7 gf
    go_wp2_with fail
    refine (join_g y c r H2.out HY.out HC.out HR.out HRT.out HYC.out HYR.out).mono ?_
    rintro e w4 ⟨rfl, h4, t4⟩
    have H4 := hid h4
    have T4 := hid (T2.out.then t4)
    rw [← HS4.out] at H4
    have HXm : Hid (x < S4.m) := by rw [HS4.out]; exact HX.out
    have ixm : (x : Int) < (S4.m : Int) := by have := HXm.out; omega
    obtain ⟨-, -, -, -, -, -, -, z7, -, -⟩ := H4.out.cells (i := x) HXm.out
    have zf := H4.out.free
    have em : (S4.m : Int) = (s.m : Int) := by rw [HS4.out]; rfl
    rw [em] at ixm
    clear h4 t4 z4 em
    go_wp2
    go_end0
    exact ⟨rfl, H4.out.set HXm.out (by omega) (upd_dg _ x (S4.dg x + 1)), T4.out.then tur_g⟩
end Go.Proofs.Yteccpjijlkjneaa
