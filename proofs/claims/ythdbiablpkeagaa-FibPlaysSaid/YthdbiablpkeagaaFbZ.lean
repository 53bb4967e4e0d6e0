/- Chapter 8's Decrease over the heap in memory. -/
import Derived.Test.YthdbiablpkeagaaFbY
namespace Go.Proofs.Ythdbiablpkeagaa
open Go.RowKit
variable {B H g cap : Nat} {w w' : World} {s s' : Hp} {least n : Int}
theorem HeapG.keyed {x : Nat} (h : HeapG B w H g cap s least n) (hx : x < s.m) (k : K3) :
    HeapG B (((w.setCell ⟨g, x * 10, none⟩ (.int .u64 k.1)).setCell ⟨g, x * 10 + 1, none⟩ (.int .u64 k.2.1)).setCell ⟨g, x * 10 + 2, none⟩ (.int .i64 k.2.2)) H g cap (s.setK x k) least n ∧
    Tur (FootG H g) w (((w.setCell ⟨g, x * 10, none⟩ (.int .u64 k.1)).setCell ⟨g, x * 10 + 1, none⟩ (.int .u64 k.2.1)).setCell ⟨g, x * 10 + 2, none⟩ (.int .i64 k.2.2)) := by
  refine ⟨?_, ((tur_g (w := w)).then tur_g).then tur_g⟩
  have h2 := ((h.set hx (c := 0) (by omega) (upd_k0 s x k.1)).set hx (c := 1) (by omega) (upd_k1 _ x k.2.1)).set hx (c := 2) (by omega) (upd_k2 _ x k.2.2)
  have e : ({ s with key := up (up (up s.key x (k.1, (s.key x).2)) x ((up s.key x (k.1, (s.key x).2) x).1, k.2.1, (up s.key x (k.1, (s.key x).2) x).2.2)) x ((up (up s.key x (k.1, (s.key x).2)) x ((up s.key x (k.1, (s.key x).2) x).1, k.2.1, (up s.key x (k.1, (s.key x).2) x).2.2) x).1, (up (up s.key x (k.1, (s.key x).2)) x ((up s.key x (k.1, (s.key x).2) x).1, k.2.1, (up s.key x (k.1, (s.key x).2) x).2.2) x).2.1, k.2.2) } : Hp) = s.setK x k := by
    simp only [up_same, up_up]
    rfl
  rw [← e]
  exact h2
theorem gtK_val (k o : K3) : (if cmpZ (k.1 * o.2.1) (o.1 * k.2.1) ≠ 0 then cmpZ (k.1 * o.2.1) (o.1 * k.2.1) else cmpZ k.2.2 o.2.2) > 0 ↔ gtK k o := by
  unfold gtK cmpZ
  repeat' split
  all_goals omega
set_option maxRecDepth 20000 in
set_option maxHeartbeats 4000000 in
theorem decrease_no {v : Value} (x : Int) (k : K3) (h : HeapV B w H v s least n) (hx : ¬ s.has x) : Calls Try.prog 17 #[.pointer (some ⟨H, 0, none⟩), .int .i64 x, .agg #[.int .u64 k.1, .int .u64 k.2.1, .int .i64 k.2.2]] w fun e w' => e = .returned (.int .i64 3) ∧ Below w.heap.size w w' := by
  have HL : Hid (∀ W, Below w.heap.size w W → Calls Try.prog 28 #[.pointer (some ⟨H, 0, none⟩), .int .i64 x] W fun e w' => e = .returned (.bool false) ∧ W = w') := fun W hb => by
    have := has_g x (h.below hb)
    rw [decide_eq_false hx] at this
    exact this
  clear h hx
  go_enter Try.func17, Try.ntmps17
  go_wp2_with fail
  refine (HL.out _ (by repeat (first | with_reducible assumption | with_reducible exact Below.refl _ _ | with_reducible refine Below.drew ?_ | with_reducible refine below_drewN ?_ _ | with_reducible refine below_alloc ?_ _ | with_reducible refine Below.alloc ?_ (by first | omega | (simp; done) | (simp; omega)) _ | with_reducible refine Below.setCell ?_ (by first | omega | (simp; done) | (simp; omega)) _ | with_reducible refine below_setRow ?_ (by first | omega | (simp; done) | (simp; omega)) _))).mono ?_
  rintro e w1 ⟨rfl, rfl⟩
  go_wp2
  go_ret
  exact ⟨rfl, (by repeat (first | with_reducible assumption | with_reducible exact Below.refl _ _ | with_reducible refine Below.drew ?_ | with_reducible refine below_drewN ?_ _ | with_reducible refine below_alloc ?_ _ | with_reducible refine Below.alloc ?_ (by first | omega | (simp; done) | (simp; omega)) _ | with_reducible refine Below.setCell ?_ (by first | omega | (simp; done) | (simp; omega)) _ | with_reducible refine below_setRow ?_ (by first | omega | (simp; done) | (simp; omega)) _))⟩
set_option maxRecDepth 100000 in
set_option maxHeartbeats 8000000 in
theorem decrease_ok (x : Nat) (k : K3) (h : HeapG B w H g cap s least n) (hg : Good s least n) (hx : s.th x = true) (hxm : x < s.m) (hk : okK k) (hle : ¬ gtK k (s.key x)) (ho : okK (s.key x)) :
    Calls Try.prog 17 #[.pointer (some ⟨H, 0, none⟩), .int .i64 x, .agg #[.int .u64 k.1, .int .u64 k.2.1, .int .i64 k.2.2]] w fun e w' => e = .returned (.int .i64 0) ∧ ∃ s' least', HeapG B w' H g cap s' least' n ∧ Good s' least' n ∧ SameK (s.setK x k) s' ∧ Tur (FootG H g) w w' := by
  have HL : Hid (∀ W, Below w.heap.size w W → Calls Try.prog 28 #[.pointer (some ⟨H, 0, none⟩), .int .i64 x] W fun e w' => e = .returned (.bool true) ∧ W = w') := fun W hb => by
    have := has_g (x : Int) (h.toV.below hb)
    rw [decide_eq_true (by unfold Hp.has; simp; exact ⟨hxm, hx⟩)] at this
    exact this
  obtain ⟨c0, -, -, cf⟩ := h.head
  obtain ⟨k0, k1, k2, -⟩ := h.cells hxm
  have gf := h.free
  have ix : (x : Int) < (s.m : Int) := by omega
  have hlH := h.ltH
  have hlg := h.ltg
  have HC : Hid (∀ W, Calls Try.prog 29 #[.agg #[.int .u64 k.1, .int .u64 k.2.1], .agg #[.int .u64 (s.key x).1, .int .u64 (s.key x).2.1]] W fun e w' => e = .returned (.tuple #[.int .i64 (cmpZ (k.1 * (s.key x).2.1) ((s.key x).1 * k.2.1)), .int .i64 0]) ∧ Below W.heap.size W w') := fun W => by
    have h1 := hk
    have h2 := ho
    unfold okK at h1 h2
    have := cmpR_any k.1 k.2.1 (s.key x).1 (s.key x).2.1 W h1.1.1 h1.1.2.1 (by omega) h1.1.2.2 h2.1.1 h2.1.2.1 (by omega) h2.1.2.2
    unfold cmpR at this
    rw [if_neg (by omega)] at this
    exact this
  have hq := fun hh => hle ((gtK_val k (s.key x)).1 hh)
  have i6 : (k.2.1 == 0) = false := by
    have := hk.2
    simp
    omega
  have HH := hid h
  have HGD := hid hg
  have HX := hid hx
  have HXM := hid hxm
  have HK := hid hk
  have HLE := hid hle
  have K0 : (k.1, k.2.1, k.2.2) = k := rfl
  generalize hc1 : cmpZ (k.1 * (s.key x).2.1) ((s.key x).1 * k.2.1) = c1 at *
  generalize hc2 : cmpZ k.2.2 (s.key x).2.2 = c2 at *
  have HC2 := hid hc2
  obtain ⟨z0, hz0⟩ : ∃ z0, z0 = (s.key x).1 := ⟨_, rfl⟩
  obtain ⟨z1, hz1⟩ : ∃ z1, z1 = (s.key x).2.1 := ⟨_, rfl⟩
  obtain ⟨z2, hz2⟩ : ∃ z2, z2 = (s.key x).2.2 := ⟨_, rfl⟩
  rw [← hz0] at k0
  rw [← hz1] at k1
  rw [← hz2] at k2
  rw [← hz0, ← hz1] at HC
  rw [← hz2] at HC2
  clear h hg hx hxm hk hle ho hc1 hc2 hz0 hz1 hz2 K0
  generalize hka : k.1 = ka at *
  generalize hkb : k.2.1 = kb at *
  generalize hkc : k.2.2 = kc at *
  have HKA := hid hka
  have HKB := hid hkb
  have HKC := hid hkc
  clear hka hkb hkc
  obtain ⟨m, hm⟩ : ∃ m, m = s.m := ⟨_, rfl⟩
  rw [← hm] at c0 ix
  have HMM := hid hm
  clear hm
  go_enter Try.func17, Try.ntmps17
  go_wp2_with fail
  refine (HL.out _ (by repeat (first | with_reducible assumption | with_reducible exact Below.refl _ _ | with_reducible refine Below.drew ?_ | with_reducible refine below_drewN ?_ _ | with_reducible refine below_alloc ?_ _ | with_reducible refine Below.alloc ?_ (by first | omega | (simp; done) | (simp; omega)) _ | with_reducible refine Below.setCell ?_ (by first | omega | (simp; done) | (simp; omega)) _ | with_reducible refine below_setRow ?_ (by first | omega | (simp; done) | (simp; omega)) _))).mono ?_
  rintro e w1 ⟨rfl, rfl⟩
  go_wp2_with fail
  refine (HC.out _).mono ?_
  rintro e w2 ⟨rfl, hb2⟩
  have hs2 := hb2.size
  simp only [World.size_alloc] at hs2
  have B2 : Below w.heap.size w w2 := Below.trans (by repeat (first | with_reducible assumption | with_reducible exact Below.refl _ _ | with_reducible refine Below.drew ?_ | with_reducible refine below_drewN ?_ _ | with_reducible refine below_alloc ?_ _ | with_reducible refine Below.alloc ?_ (by first | omega | (simp; done) | (simp; omega)) _ | with_reducible refine Below.setCell ?_ (by first | omega | (simp; done) | (simp; omega)) _ | with_reducible refine below_setRow ?_ (by first | omega | (simp; done) | (simp; omega)) _)) (hb2.mono (by first | omega | (simp; done) | (simp; omega)))
  obtain ⟨hc2, hf2⟩ := bcell hb2
  have q2 : w2.heap[w.heap.size]? = some (.cells #[.int .u64 ka, .int .u64 kb, .int .i64 kc] 33 (0, 0)) := below_at hb2 (by first | omega | (simp; done) | (simp; omega)) (at_of (by apply Exists.intro; refine ⟨?_, ?_⟩; (focus ((repeat (first | (with_reducible assumption) | (with_reducible exact alloc_at _ _) | ((with_reducible apply alloc_at'); (simp; done)) | (with_reducible apply alloc_at_lt) | (with_reducible apply heap_drew_at) | (with_reducible apply heap_drewN_at) | (with_reducible apply heap_setCell_same) | ((with_reducible apply heap_set_ne); (first | omega | (dsimp only; omega) | (simp; done) | (simp; omega))) | (with_reducible apply setRow_at) | ((with_reducible apply setRow_ne); (first | omega | (dsimp only; omega) | (simp; done) | (simp; omega))))))); simp))
  clear hb2
  go_wp2_with fail
  refine (cmpT_any _ _ _).mono ?_
  rintro e w3 ⟨rfl, rfl⟩
  rw [HC2.out]
  go_wp2_with fail
  refine (or2' _ c1 c2 _ (by (repeat (first | (with_reducible assumption) | (with_reducible exact alloc_at _ _) | ((with_reducible apply alloc_at'); (simp; done)) | (with_reducible apply alloc_at_lt) | (with_reducible apply heap_drew_at) | (with_reducible apply heap_drewN_at) | (with_reducible apply heap_setCell_same) | ((with_reducible apply heap_set_ne); (first | omega | (dsimp only; omega) | (simp; done) | (simp; omega))) | (with_reducible apply setRow_at) | ((with_reducible apply setRow_ne); (first | omega | (dsimp only; omega) | (simp; done) | (simp; omega))))))).mono ?_
  rintro e w3 ⟨rfl, rfl⟩
  generalize (if c1 ≠ 0 then c1 else c2) = q at *
  go_upto_region 9 with (fail)
  refine wp_name ?_
  intro w4 hw4
  have q4 : w4.heap[w.heap.size]? = some (.cells #[.int .u64 ka, .int .u64 kb, .int .i64 kc] 33 (0, 0)) := by rw [hw4]; exact (by (repeat (first | (with_reducible assumption) | (with_reducible exact alloc_at _ _) | ((with_reducible apply alloc_at'); (simp; done)) | (with_reducible apply alloc_at_lt) | (with_reducible apply heap_drew_at) | (with_reducible apply heap_drewN_at) | (with_reducible apply heap_setCell_same) | ((with_reducible apply heap_set_ne); (first | omega | (dsimp only; omega) | (simp; done) | (simp; omega))) | (with_reducible apply setRow_at) | ((with_reducible apply setRow_ne); (first | omega | (dsimp only; omega) | (simp; done) | (simp; omega))))))
  have B4 : Below w.heap.size w w4 := by rw [hw4]; exact (by repeat (first | with_reducible assumption | with_reducible exact Below.refl _ _ | with_reducible refine Below.drew ?_ | with_reducible refine below_drewN ?_ _ | with_reducible refine below_alloc ?_ _ | with_reducible refine Below.alloc ?_ (by first | omega | (simp; done) | (simp; omega)) _ | with_reducible refine Below.setCell ?_ (by first | omega | (simp; done) | (simp; omega)) _ | with_reducible refine below_setRow ?_ (by first | omega | (simp; done) | (simp; omega)) _))
  have H4 : HeapG B w4 H g cap s least n := HH.out.below B4
  obtain ⟨d0, -, -, df⟩ := H4.head
  obtain ⟨e0, e1, e2, -⟩ := H4.cells HXM.out
  have ef := H4.free
  rw [← HMM.out] at d0
  have q40 := (blk_cell q4 0).trans rfl
  have q41 := (blk_cell q4 1).trans rfl
  have q42 := (blk_cell q4 2).trans rfl
  have q4f := blk_free q4
  have H5 : Hid (HeapG B (((w4.setCell ⟨g, x * 10, none⟩ (.int .u64 ka)).setCell ⟨g, x * 10 + 1, none⟩ (.int .u64 kb)).setCell ⟨g, x * 10 + 2, none⟩ (.int .i64 kc)).drew H g cap (s.setK x k) least n ∧ Tur (FootG H g) w (((w4.setCell ⟨g, x * 10, none⟩ (.int .u64 ka)).setCell ⟨g, x * 10 + 1, none⟩ (.int .u64 kb)).setCell ⟨g, x * 10 + 2, none⟩ (.int .i64 kc)).drew) := by
    rw [← HKA.out, ← HKB.out, ← HKC.out]
    have := H4.keyed HXM.out k
    exact ⟨this.1.drewn, ((Tur.of_below B4).then this.2).then tur_drew⟩
  clear hw4 q4 H4 B4 hc2 hf2 q2 c0 cf k0 k1 k2 gf
  go_region
  refine then_name ?_
  intro w5 hw5
  rw [← hw5] at H5
  clear hw5 d0 df e0 e1 e2 ef q40 q41 q42 q4f B2 hs2 HC HL HC2 HKA HKB HKC
  have OKX : Hid (okK ((s.setK x k).key x)) := by
    have e : (s.setK x k).key x = k := up_same _ _ _
    unfold Hid
    rw [e]
    exact HK.out
  have hm1 : s.m ≤ 1048576 := HGD.out.1
  have HM1 := hid hm1
  have ixb : (x : Int) ≤ 1048576 := by have := HXM.out; omega
  have d0 : w5.cell? ⟨H, 0, none⟩ = some (.slice (some ⟨g, 0, none⟩) m cap) := by rw [HMM.out]; exact H5.out.1.head.1
  have d1 : w5.cell? ⟨H, 1, none⟩ = some (.int .i64 least) := H5.out.1.head.2.1
  have df := H5.out.1.head.2.2.2
  have x3 : w5.cell? ⟨g, x * 10 + 3, none⟩ = some (.int .i64 (s.par x)) := H5.out.1.cell (s := s.setK x k) HXM.out (c := 3) (by omega)
  have xf := H5.out.1.free
  clear hm1
  by_cases hp : s.par x = -1
  · obtain ⟨y, hy, oky, rfl, hG⟩ := HGD.out.decTop HX.out hp HK.out HLE.out
    rw [hp] at x3
    have iyb : (y : Int) ≤ 1048576 := by have := HM1.out; omega
    have i5 : IntKind.i64.wrap ((y : Int) + 1 - 1) = (y : Int) := by have := HM1.out; rw [show (y : Int) + 1 - 1 = (y : Int) by omega]; exact IntWalk.i64_in _ (by omega)
    have HY := hid hy
    have OKY := hid oky
    have HG2 := hid hG
    clear hy oky hG hp HLE HGD
    go_wp2_with fail
    refine (less_g x y H5.out.1 HXM.out HY.out OKX.out OKY.out).mono ?_
    rintro e w6 ⟨rfl, hb6⟩
    have H6 := hid (H5.out.1.below hb6)
    have T6 := hid (H5.out.2.then (Tur.of_below hb6))
    have d1 : w6.cell? ⟨H, 1, none⟩ = some (.int .i64 ((y : Int) + 1)) := H6.out.head.2.1
    have df := H6.out.head.2.2.2
    clear hb6 d0 x3 xf H5
    cases hq : (s.setK x k).ltB x y with
    | true =>
      have hl : (s.setK x k).lt x y := of_decide_eq_true hq
      have F : Hid (Good (s.setK x k) ((x : Int) + 1) n) := by
        have := HG2.out
        rw [if_pos hl] at this
        exact this
      clear hq hl HG2
      go_wp2
      go_ret
      exact ⟨rfl, _, _, H6.out.setL _, F.out, SameK.refl _, T6.out.then tur_h⟩
    | false =>
      have hl : ¬ (s.setK x k).lt x y := of_decide_eq_false hq
      have F : Hid (Good (s.setK x k) ((y : Int) + 1) n) := by
        have := HG2.out
        rw [if_neg hl] at this
        exact this
      clear hq hl HG2
      go_wp2
      go_ret
      exact ⟨rfl, _, _, H6.out, F.out, SameK.refl _, T6.out⟩
  · obtain ⟨p, ep, hpm, okp, ⟨kids, L, hF, hR⟩, hG⟩ := HGD.out.decKid HX.out hp HK.out HLE.out
    rw [ep] at x3
    have i3 : ((p : Int) != -1) = true := by simp
    have i4 : ((p : Int) == -1) = false := by simp
    have HPM := hid hpm
    have OKP := hid okp
    have HF := hid hF
    have HRR := hid hR
    have HG2 := hid hG
    have HN : Hid (n = ((List.range s.m).countP s.th : Int)) := HGD.out.2.1
    have EP := hid ep
    clear ep hpm okp hF hR hG hp HLE HGD
    go_wp2_with fail
    refine (less_g x p H5.out.1 HXM.out HPM.out OKX.out OKP.out).mono ?_
    rintro e w6 ⟨rfl, hb6⟩
    have H6 := hid (H5.out.1.below hb6)
    have T6 := hid (H5.out.2.then (Tur.of_below hb6))
    have d0 : w6.cell? ⟨H, 0, none⟩ = some (.slice (some ⟨g, 0, none⟩) m cap) := by rw [HMM.out]; exact H6.out.head.1
    have df := H6.out.head.2.2.2
    have x3 : w6.cell? ⟨g, x * 10 + 3, none⟩ = some (.int .i64 p) := by rw [← EP.out]; exact H6.out.cell (s := s.setK x k) HXM.out (c := 3) (by omega)
    have xf := H6.out.free
    clear hb6 d1 H5
    cases hq : (s.setK x k).ltB x p with
    | true =>
      clear hq HG2 d0 df x3 xf
      go_wp2_with fail
      refine (cut_g x kids L H6.out HM1.out HF.out HRR.out HX.out HN.out).mono ?_
      rintro e w7 ⟨rfl, s3, least3, h7, hg3, hsm, hpar, t7⟩
      have hxm3 : x < s3.m := by have := hsm.1; have := HXM.out; show x < s3.m; rw [hsm.1]; exact HXM.out
      obtain ⟨y, rfl, hy, hty, hnl⟩ := hg3.least_of (x := x) (by rw [hsm.2.2]; exact HX.out)
      have okx3 : okK (s3.key x) := by rw [hsm.2.1]; exact OKX.out
      have oky3 : okK (s3.key y) := by
        obtain ⟨-, -, kids3, L3, hf3, -⟩ := hg3
        exact hf3.okk y hty
      have iyb : (y : Int) ≤ 1048576 := by have := hg3.1; omega
      have i5 : IntKind.i64.wrap ((y : Int) + 1 - 1) = (y : Int) := by
        have := hg3.1
        rw [show (y : Int) + 1 - 1 = (y : Int) by omega]; exact IntWalk.i64_in _ (by omega)
      have i9 : s3.ltB x y = false := decide_eq_false hnl
      have e3 : s3.m = m := by rw [hsm.1, HMM.out]; rfl
      have d0 : w7.cell? ⟨H, 0, none⟩ = some (.slice (some ⟨g, 0, none⟩) m cap) := by rw [← e3]; exact h7.head.1
      have d1 : w7.cell? ⟨H, 1, none⟩ = some (.int .i64 ((y : Int) + 1)) := h7.head.2.1
      have df := h7.head.2.2.2
      have x3 : w7.cell? ⟨g, x * 10 + 3, none⟩ = some (.int .i64 (-1)) := by rw [← hpar]; exact h7.cell hxm3 (c := 3) (by omega)
      have xf := h7.free
      have H7 := hid h7
      have HG3 := hid hg3
      have HSM := hid hsm
      have T7 := hid (T6.out.then t7)
      have HX3 := hid hxm3
      have HY := hid hy
      have OKX3 := hid okx3
      have OKY3 := hid oky3
      have I9 := hid i9
      clear h7 hg3 hsm hpar t7 hxm3 hy hty hnl okx3 oky3 i9 e3 H6 T6 HF HRR
      go_wp2_with fail
      refine (less_g x y H7.out HX3.out HY.out OKX3.out OKY3.out).mono ?_
      rintro e w8 ⟨rfl, hb8⟩
      rw [I9.out]
      have F : Hid (HeapG B w8 H g cap s3 ((y : Int) + 1) n ∧ Tur (FootG H g) w w8) := ⟨H7.out.below hb8, T7.out.then (Tur.of_below hb8)⟩
      clear hb8
      go_wp2
      go_ret
      exact ⟨rfl, _, _, F.out.1, HG3.out, HSM.out, F.out.2⟩
    | false =>
      have F : Hid (Good (s.setK x k) least n) := HG2.out (of_decide_eq_false hq)
      clear hq HG2
      go_wp2
      go_ret
      exact ⟨rfl, _, _, H6.out, F.out, SameK.refl _, T6.out⟩
end Go.Proofs.Ythdbiablpkeagaa
