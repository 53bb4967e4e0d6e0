/- Chapter 8's leave and cut over the heap in memory. -/
import Derived.Test.YthdbiablpkeagaaFbN
import Derived.Test.YthdbiablpkeagaaFbG
import Derived.Test.YthdbiablpkeagaaFbW
namespace Go.Proofs.Ythdbiablpkeagaa
open Go.RowKit
variable {B H g cap : Nat} {w w' : World} {s s' : Hp} {least n : Int}
/-- A world is named behind a region. -/
theorem then_name {K : Act → World → Prop} {Q : Exit → Act → World → Prop} {x : Exit} {a : Act} {w : World} (h : ∀ w2, w2 = w → Exit.then K Q x a w2) : Exit.then K Q x a w := h w rfl
theorem tur_drew {F : Nat → Prop} {w : World} : Tur F w w.drew := ⟨rfl, by simp, rfl, Nat.le_refl _, fun _ _ _ => rfl⟩
theorem HeapG.drewn (h : HeapG B w H g cap s least n) : HeapG B w.drew H g cap s least n := h.at rfl rfl
set_option maxRecDepth 20000 in
set_option maxHeartbeats 4000000 in
theorem leave_g (x l r : Nat) (h : HeapG B w H g cap s least n) (hx : x < s.m) (hl : l < s.m) (hr : r < s.m) (el : s.lf x = (l : Int)) (er : s.rt x = (r : Int)) :
    Calls Try.prog 49 #[.pointer (some ⟨H, 0, none⟩), .int .i64 x] w fun e w' => e = .returned (.tuple #[]) ∧ HeapG B w' H g cap (s.leaveS x l r) least n ∧ Tur (FootG H g) w w' := by
  obtain ⟨c0, -, -, cf⟩ := h.head
  obtain ⟨-, -, -, -, -, x5, x6, -, -, -⟩ := h.cells hx
  obtain ⟨-, -, -, -, -, l5, l6, -, -, -⟩ := h.cells hl
  rw [el] at x5
  rw [er] at x6
  have gf := h.free
  have ix : (x : Int) < (s.m : Int) := by omega
  have il : (l : Int) < (s.m : Int) := by omega
  have ir : (r : Int) < (s.m : Int) := by omega
  have h1 : HeapG B (w.setCell ⟨g, l * 10 + 6, none⟩ (.int .i64 r)) H g cap { s with rt := up s.rt l (r : Int) } least n := h.set hl (by omega) (upd_rt s l (r : Int))
  have t1 : Tur (FootG H g) w (w.setCell ⟨g, l * 10 + 6, none⟩ (.int .i64 r)) := tur_g (w := w)
  have e1 : Hid (up s.rt l (r : Int) x = (r : Int)) := by
    unfold Hid
    by_cases q : x = l
    · rw [q, up_same]
    · rw [up_ne _ _ q]; exact er
  have HX := hid hx
  have HR := hid hr
  have EL := hid el
  have H1 := hid h1.drewn
  have T1 := hid (t1.then tur_drew)
  clear h h1 t1 hx hl hr el er
  go_enter Try.func49, Try.ntmps49
  go_upto_region 1 with (fail)
  go_region
  go_wp2_with fail
  refine wp_name ?_
  intro w3 hw3
  rw [← hw3] at H1 T1
  obtain ⟨-, -, -, -, -, z5, z6, -, -, -⟩ := H1.out.cells (i := x) HX.out
  obtain ⟨-, -, -, -, -, r5, -, -, -, -⟩ := H1.out.cells (i := r) HR.out
  simp only at z5 z6
  rw [EL.out] at z5
  rw [e1.out] at z6
  have zf := H1.out.free
  have h2 : HeapG B (w3.setCell ⟨g, r * 10 + 5, none⟩ (.int .i64 l)) H g cap { s with rt := up s.rt l (r : Int), lf := up s.lf r (l : Int) } least n := H1.out.set HR.out (by omega) (upd_lf _ r (l : Int))
  have t2 : Tur (FootG H g) w (w3.setCell ⟨g, r * 10 + 5, none⟩ (.int .i64 l)) := T1.out.then tur_g
  have H2 := hid h2.drewn
  have T2 := hid (t2.then tur_drew)
  clear hw3 c0 cf x5 x6 l5 l6 gf h2 t2 H1 T1 e1 EL
  go_region
  refine then_name ?_
  intro w4 hw4
  rw [← hw4] at H2 T2
  obtain ⟨-, -, -, -, -, y5, y6, -, -, -⟩ := H2.out.cells (i := x) HX.out
  simp only at y5 y6
  have yf := H2.out.free
  clear hw4 z5 z6 zf r5
  go_wp2
  go_end0
  exact ⟨rfl, (H2.out.set HX.out (by omega) (upd_lf _ x (x : Int))).set HX.out (by omega) (upd_rt _ x (x : Int)), (T2.out.then tur_g).then tur_g⟩
/-- A turn of cut, with what comes of it. -/
theorem Frst.turn2 {kids : Nat → List Nat} {L : List Nat} {x : Nat} (h : Frst s kids (some x) L) (hR : Rts s least L) (hx : s.th x = true) (hp : s.par x ≠ -1) : ∃ p l r : Nat, (s.par x = (p : Int) ∧ s.lf x = (l : Int) ∧ s.rt x = (r : Int)) ∧ (x < s.m ∧ p < s.m ∧ l < s.m ∧ r < s.m ∧ p ≠ x) ∧ (0 ≤ s.dg p ∧ s.dg p ≤ (s.m : Int)) ∧
    (least = 0 ∨ ∃ y z : Nat, least = (y : Int) + 1 ∧ y < s.m ∧ z < s.m ∧ (s.cutA p x l r).rt y = (z : Int) ∧ x ≠ y ∧ x ≠ z ∧ okK (s.key y)) ∧ okK (s.key x) ∧
    ∃ s2 least2, s2 = (s.cutA p x l r).rootS least x ∧ least2 = (s.cutA p x l r).rootL least x ∧ SameK s s2 ∧ ur s2 < ur s ∧ s2.par = up s.par x (-1) ∧ s2.mr p = s.mr p ∧ s2.th p = true ∧ (s.mr p = false → ∃ kids' L', Frst (s2.markP p) kids' none L' ∧ Rts (s2.markP p) least2 L') ∧ ∃ kids' L', Frst s2 kids' (some p) L' ∧ Rts s2 least2 L' := by
  obtain ⟨p, l, r, h1, h2, h3, h4, h5, kids', L', h6, h7, h8, -⟩ := h.turn hR hx hp
  obtain ⟨e1, e2, e3, -, -⟩ := Hp.rootS_same (s.cutA p x l r) least x
  obtain ⟨e6, e7⟩ := rootS_x (s.cutA p x l r) least x
  have em : ((s.cutA p x l r).rootS least x).mr p = s.mr p := by rw [e7]; exact up_ne _ _ h2.2.2.2.2
  have et : ((s.cutA p x l r).rootS least x).th p = true := by rw [e3]; exact h3
  refine ⟨p, l, r, h1, h2, h4, h5, h.okk x hx, _, _, rfl, rfl, ⟨e1, e2, e3⟩, ur_lt h2.1 hp e1 e6, e6, em, et, fun hm => ⟨kids', L', h6.paid h7 et (by rw [em]; exact hm) fun q tq hq => ?_⟩, kids', L', h6, h7⟩
  rw [e3] at tq
  have := h8 q tq hq
  unfold Hp.lt at *
  rw [e2]
  exact this
/-- Where cut is: the entry x, whose order is in suspense. -/
structure CW (B : Nat) (w0 w : World) (H g cap x0 : Nat) (s0 : Hp) (least n : Int) (s : Hp) (kids : Nat → List Nat) (L : List Nat) (x : Nat) : Prop where
  heap : HeapG B w H g cap s least n
  fr : Frst s kids (some x) L
  rt : Rts s least L
  th : s.th x = true
  same : SameK s0 s
  tur : Tur (FootG H g) w0 w
  top : x = x0 ∨ s.par x0 = -1
set_option maxRecDepth 100000 in
set_option maxHeartbeats 8000000 in
theorem cut_g (x0 : Nat) (kids : Nat → List Nat) (L : List Nat) (h : HeapG B w H g cap s least n) (hm : s.m ≤ 1048576) (hf : Frst s kids (some x0) L) (hr : Rts s least L) (hx : s.th x0 = true) (hn : n = ((List.range s.m).countP s.th : Int)) :
    Calls Try.prog 32 #[.pointer (some ⟨H, 0, none⟩), .int .i64 x0] w fun e w' => e = .returned (.tuple #[]) ∧ ∃ s' least', HeapG B w' H g cap s' least' n ∧ Good s' least' n ∧ SameK s s' ∧ s'.par x0 = -1 ∧ Tur (FootG H g) w w' := by
  have G1 : Hid (CW B w w H g cap x0 s least n s kids L x0) := ⟨h, hf, hr, hx, SameK.refl s, Tur.refl _ _, .inl rfl⟩
  have HM := hid hm
  have HNN := hid hn
  have END : Hid (∀ (s' : Hp) (least' : Int) (kids' : Nat → List Nat) (L' : List Nat), SameK s s' → Frst s' kids' none L' → Rts s' least' L' → Good s' least' n) := fun s' least' kids' L' hs h1 h2 => ⟨by rw [hs.1]; exact hm, by rw [hs.1, hs.2.2]; exact hn, kids', L', h1, h2⟩
  clear h hm hf hr hx hn
  go_enter Try.func32, Try.ntmps32
  go_wp2_with fail
  go_loopg [1] (ur s) (fun k y wr => ∃ (x : Nat) (s1 : Hp) (least1 : Int) (kids1 : Nat → List Nat) (L1 : List Nat), y = .int .i64 x ∧ Hid (ur s1 = k ∧ CW B w wr H g cap x0 s least1 n s1 kids1 L1 x))
  case atStart => exact ⟨x0, s, least, kids, L, rfl, rfl, G1.out⟩
  case round =>
    clear G1
    obtain ⟨x, s1, least1, kids1, L1, rfl, HG⟩ := hrel
    obtain ⟨hgk, G⟩ := HG.out
    have HGK := hid hgk
    have hxm := G.fr.ltm x G.th
    have hm1 : s1.m ≤ 1048576 := by rw [G.same.1]; exact HM.out
    obtain ⟨c0, -, -, cf⟩ := G.heap.head
    obtain ⟨-, -, -, x3, -, -, x6, -, -, -⟩ := G.heap.cells hxm
    have gf := G.heap.free
    have ix : (x : Int) < (s1.m : Int) := by omega
    by_cases hp : s1.par x = -1
    · rw [hp] at x3
      have F : Hid (∃ s' least', HeapG B wr H g cap s' least' n ∧ Good s' least' n ∧ SameK s s' ∧ s'.par x0 = -1 ∧ Tur (FootG H g) w wr) := by
        refine ⟨s1, least1, G.heap, END.out s1 least1 kids1 L1 G.same (G.fr.settle ((G.fr.top_iff G.rt G.th).2 hp)) G.rt, G.same, ?_, G.tur⟩
        rcases G.top with e | e
        · rw [← e]; exact hp
        · exact e
      clear hgk G HG END HGK hm1 hxm hp
      go_wp2
      refine bodyPost_ret (results_none rfl _ _ _) rfl ⟨rfl, F.out⟩
    · obtain ⟨p, l, r, ⟨e1, e2, e3⟩, ⟨-, hpm, hlm, hrm, hpx⟩, hdg, hsp, kx, s2, least2, es2, el2, hsm, hur, epar, emr, thp, hpaid, hgo⟩ := G.fr.turn2 G.rt G.th hp
      rw [e1] at x3
      rw [e3] at x6
      obtain ⟨-, -, -, -, p4, -, -, -, -, -⟩ := G.heap.cells hpm
      have ip : (p : Int) < (s1.m : Int) := by omega
      have i3 : ((p : Int) == -1) = false := by simp
      have jw : IntKind.i64.wrap (s1.dg p - 1) = s1.dg p - 1 := IntWalk.i64_in _ (by omega)
      have HX := hid hxm
      have HP := hid hpm
      have HL := hid hlm
      have HR := hid hrm
      have EL := hid e2
      have ER := hid e3
      have HM1 := hid hm1
      have HSP := hid hsp
      have HKX := hid kx
      have HPAID := hid hpaid
      have HGO := hid hgo
      have HSM := hid (G.same.trans hsm)
      have HUR := hid hur
      have EPAR := hid epar
      have EMR := hid emr
      have THP := hid thp
      have ES2 := hid es2
      have EL2 := hid el2
      have TOP := hid G.top
      have HH := hid G.heap
      have TT := hid G.tur
      clear hgk HG hm1 hxm hp e1 e2 e3 hpm hlm hrm hdg hsp kx hpaid hgo hsm hur epar emr thp es2 el2
      have TOP2 : Hid (s2.par x0 = -1) := by
        unfold Hid
        rw [EPAR.out]
        by_cases q : x0 = x
        · rw [q, up_same]
        · rw [up_ne _ _ q]
          exact TOP.out.resolve_left (fun e => q e.symm)
      have HP2 : Hid (p < s2.m) := by
        have h1 := HSM.out.1
        have h2 := G.same.1
        show p < s2.m
        omega
      clear G
      by_cases q1 : r = x
      · have E : Hid (HeapG B (wr.setCell ⟨g, p * 10 + 4, none⟩ (.int .i64 (-1))) H g cap { s1 with ch := up s1.ch p (s1.chP p x r) } least1 n) := by
          have e : s1.chP p x r = -1 := if_pos q1
          rw [e]
          exact HH.out.set HP.out (by omega) (upd_ch _ p (-1))
        have T : Hid (Tur (FootG H g) w (wr.setCell ⟨g, p * 10 + 4, none⟩ (.int .i64 (-1)))) := TT.out.then tur_g
        rw [q1] at x6
        clear HH TT q1
        go_upto_region 6 with (fail)
        refine wp_name ?_
        intro w3 hw3
        rw [← hw3] at E T
        clear hw3 c0 cf x3 x6 p4 gf
        have d0 : w3.cell? ⟨H, 0, none⟩ = some (.slice (some ⟨g, 0, none⟩) s1.m cap) := E.out.head.1
        have df := E.out.head.2.2.2
        go_wp2_with fail
        refine (leave_g x l r E.out HX.out HL.out HR.out EL.out ER.out).mono ?_
        rintro e w4 ⟨rfl, h4, t4⟩
        have T5 : Hid (Tur (FootG H g) w (w4.setCell ⟨g, p * 10 + 7, none⟩ (.int .i64 (s1.dg p - 1)))) := (T.out.then t4).then tur_g
        have H5 : Hid (HeapG B (w4.setCell ⟨g, p * 10 + 7, none⟩ (.int .i64 (s1.dg p - 1))) H g cap (s1.cutA p x l r) least1 n) := h4.set HP.out (by omega) (upd_dg _ p (s1.dg p - 1))
        have z0 : w4.cell? ⟨H, 0, none⟩ = some (.slice (some ⟨g, 0, none⟩) s1.m cap) := h4.head.1
        have zf := h4.head.2.2.2
        have z7 : w4.cell? ⟨g, p * 10 + 7, none⟩ = some (.int .i64 (s1.dg p)) := h4.cell HP.out (c := 7) (by omega)
        have yf := h4.free
        clear h4 t4 d0 df E T
        go_upto_region 8 with (fail)
        refine wp_name ?_
        intro w5 hw5
        rw [← hw5] at H5 T5
        have d0 : w5.cell? ⟨H, 0, none⟩ = some (.slice (some ⟨g, 0, none⟩) s1.m cap) := H5.out.head.1
        have df := H5.out.head.2.2.2
        clear hw5 z0 zf z7 yf
        go_wp2_with fail
        refine (root_g x H5.out HX.out HM1.out HKX.out HSP.out).mono ?_
        rintro e w6 ⟨rfl, h6, t6⟩
        rw [← ES2.out, ← EL2.out] at h6
        have T6 := hid (T5.out.then t6)
        have H6 := hid h6
        have z0 : w6.cell? ⟨H, 0, none⟩ = some (.slice (some ⟨g, 0, none⟩) s2.m cap) := h6.head.1
        have zf := h6.head.2.2.2
        have z8 : w6.cell? ⟨g, p * 10 + 8, none⟩ = some (.bool (s2.mr p)) := h6.cell HP2.out (c := 8) (by omega)
        have z3 : w6.cell? ⟨g, p * 10 + 3, none⟩ = some (.int .i64 (s2.par p)) := h6.cell HP2.out (c := 3) (by omega)
        have yf := h6.free
        have ip2 : (p : Int) < (s2.m : Int) := by have := HP2.out; omega
        clear h6 t6 d0 df H5 T5 jw ip
        cases hq : s2.mr p with
        | true =>
          rw [hq] at z8
          have HF : Hid (∃ kids' L', CW B w w6 H g cap x0 s least2 n s2 kids' L' p) := by
            obtain ⟨kids', L', f1, f2⟩ := HGO.out
            exact ⟨kids', L', H6.out, f1, f2, THP.out, HSM.out, T6.out, .inr TOP2.out⟩
          have HMS : Hid (ur s2 < gk) := by
            have := HUR.out
            rw [HGK.out] at this
            exact this
          clear HGO HUR HGK H6 T6 HPAID hq
          go_wp2
          go_roundg (ur s2)
          case rel =>
            obtain ⟨kids', L', f⟩ := HF.out
            exact ⟨p, s2, least2, kids', L', rfl, hid ⟨rfl, f⟩⟩
          case measure => exact HMS.out
        | false =>
          rw [hq] at z8
          have hb : (s2.par p != -1) = decide (s2.par p ≠ -1) := by by_cases q : s2.par p = -1 <;> simp [q]
          have H7 : Hid (HeapG B (w6.setCell ⟨g, p * 10 + 8, none⟩ (.bool (s2.par p != -1))).drew H g cap (s2.markP p) least2 n) := by
            have h7 := (H6.out.set HP2.out (by omega) (upd_mr _ p (s2.par p != -1))).drewn
            have e : ({ s2 with mr := up s2.mr p (s2.par p != -1) } : Hp) = s2.markP p := by
              unfold Hp.markP
              rw [hb]
            rw [← e]
            exact h7
          have F : Hid (∃ s' least', HeapG B (w6.setCell ⟨g, p * 10 + 8, none⟩ (.bool (s2.par p != -1))).drew H g cap s' least' n ∧ Good s' least' n ∧ SameK s s' ∧ s'.par x0 = -1 ∧ Tur (FootG H g) w (w6.setCell ⟨g, p * 10 + 8, none⟩ (.bool (s2.par p != -1))).drew) := by
            obtain ⟨kids', L', f1, f2⟩ := HPAID.out (by rw [← EMR.out]; exact hq)
            exact ⟨s2.markP p, least2, H7.out, END.out _ _ kids' L' HSM.out f1 f2, HSM.out, TOP2.out, (T6.out.then tur_g).then tur_drew⟩
          clear HGO HUR HGK H6 T6 H7 HPAID hb hq
          generalize s2.par p = pp at *
          go_upto_region 10 with (fail)
          go_region
          go_wp2
          refine bodyPost_ret (results_none rfl _ _ _) rfl ⟨rfl, F.out⟩
      · have i7 : ((r : Int) == (x : Int)) = false := by simp; omega
        by_cases q2 : s1.ch p = (x : Int)
        · have E : Hid (HeapG B (wr.setCell ⟨g, p * 10 + 4, none⟩ (.int .i64 r)).drew H g cap { s1 with ch := up s1.ch p (s1.chP p x r) } least1 n) := by
            have e : s1.chP p x r = (r : Int) := (if_neg q1).trans (if_pos q2)
            rw [e]
            exact (HH.out.set HP.out (by omega) (upd_ch _ p (r : Int))).drewn
          have T : Hid (Tur (FootG H g) w (wr.setCell ⟨g, p * 10 + 4, none⟩ (.int .i64 r)).drew) := (TT.out.then tur_g).then tur_drew
          rw [q2] at p4
          clear HH TT q1 q2
          go_upto_region 5 with (fail)
          go_region
          refine then_name ?_
          intro w3 hw3
          rw [← hw3] at E T
          clear hw3 c0 cf x3 x6 p4 gf i7
          have d0 : w3.cell? ⟨H, 0, none⟩ = some (.slice (some ⟨g, 0, none⟩) s1.m cap) := E.out.head.1
          have df := E.out.head.2.2.2
          go_wp2_with fail
          refine (leave_g x l r E.out HX.out HL.out HR.out EL.out ER.out).mono ?_
          rintro e w4 ⟨rfl, h4, t4⟩
          have T5 : Hid (Tur (FootG H g) w (w4.setCell ⟨g, p * 10 + 7, none⟩ (.int .i64 (s1.dg p - 1)))) := (T.out.then t4).then tur_g
          have H5 : Hid (HeapG B (w4.setCell ⟨g, p * 10 + 7, none⟩ (.int .i64 (s1.dg p - 1))) H g cap (s1.cutA p x l r) least1 n) := h4.set HP.out (by omega) (upd_dg _ p (s1.dg p - 1))
          have z0 : w4.cell? ⟨H, 0, none⟩ = some (.slice (some ⟨g, 0, none⟩) s1.m cap) := h4.head.1
          have zf := h4.head.2.2.2
          have z7 : w4.cell? ⟨g, p * 10 + 7, none⟩ = some (.int .i64 (s1.dg p)) := h4.cell HP.out (c := 7) (by omega)
          have yf := h4.free
          clear h4 t4 d0 df E T
          go_upto_region 8 with (fail)
          refine wp_name ?_
          intro w5 hw5
          rw [← hw5] at H5 T5
          have d0 : w5.cell? ⟨H, 0, none⟩ = some (.slice (some ⟨g, 0, none⟩) s1.m cap) := H5.out.head.1
          have df := H5.out.head.2.2.2
          clear hw5 z0 zf z7 yf
          go_wp2_with fail
          refine (root_g x H5.out HX.out HM1.out HKX.out HSP.out).mono ?_
          rintro e w6 ⟨rfl, h6, t6⟩
          rw [← ES2.out, ← EL2.out] at h6
          have T6 := hid (T5.out.then t6)
          have H6 := hid h6
          have z0 : w6.cell? ⟨H, 0, none⟩ = some (.slice (some ⟨g, 0, none⟩) s2.m cap) := h6.head.1
          have zf := h6.head.2.2.2
          have z8 : w6.cell? ⟨g, p * 10 + 8, none⟩ = some (.bool (s2.mr p)) := h6.cell HP2.out (c := 8) (by omega)
          have z3 : w6.cell? ⟨g, p * 10 + 3, none⟩ = some (.int .i64 (s2.par p)) := h6.cell HP2.out (c := 3) (by omega)
          have yf := h6.free
          have ip2 : (p : Int) < (s2.m : Int) := by have := HP2.out; omega
          clear h6 t6 d0 df H5 T5 jw ip
          cases hq : s2.mr p with
          | true =>
            rw [hq] at z8
            have HF : Hid (∃ kids' L', CW B w w6 H g cap x0 s least2 n s2 kids' L' p) := by
              obtain ⟨kids', L', f1, f2⟩ := HGO.out
              exact ⟨kids', L', H6.out, f1, f2, THP.out, HSM.out, T6.out, .inr TOP2.out⟩
            have HMS : Hid (ur s2 < gk) := by
              have := HUR.out
              rw [HGK.out] at this
              exact this
            clear HGO HUR HGK H6 T6 HPAID hq
            go_wp2
            go_roundg (ur s2)
            case rel =>
              obtain ⟨kids', L', f⟩ := HF.out
              exact ⟨p, s2, least2, kids', L', rfl, hid ⟨rfl, f⟩⟩
            case measure => exact HMS.out
          | false =>
            rw [hq] at z8
            have hb : (s2.par p != -1) = decide (s2.par p ≠ -1) := by by_cases q : s2.par p = -1 <;> simp [q]
            have H7 : Hid (HeapG B (w6.setCell ⟨g, p * 10 + 8, none⟩ (.bool (s2.par p != -1))).drew H g cap (s2.markP p) least2 n) := by
              have h7 := (H6.out.set HP2.out (by omega) (upd_mr _ p (s2.par p != -1))).drewn
              have e : ({ s2 with mr := up s2.mr p (s2.par p != -1) } : Hp) = s2.markP p := by
                unfold Hp.markP
                rw [hb]
              rw [← e]
              exact h7
            have F : Hid (∃ s' least', HeapG B (w6.setCell ⟨g, p * 10 + 8, none⟩ (.bool (s2.par p != -1))).drew H g cap s' least' n ∧ Good s' least' n ∧ SameK s s' ∧ s'.par x0 = -1 ∧ Tur (FootG H g) w (w6.setCell ⟨g, p * 10 + 8, none⟩ (.bool (s2.par p != -1))).drew) := by
              obtain ⟨kids', L', f1, f2⟩ := HPAID.out (by rw [← EMR.out]; exact hq)
              exact ⟨s2.markP p, least2, H7.out, END.out _ _ kids' L' HSM.out f1 f2, HSM.out, TOP2.out, (T6.out.then tur_g).then tur_drew⟩
            clear HGO HUR HGK H6 T6 H7 HPAID hb hq
            generalize s2.par p = pp at *
            go_upto_region 10 with (fail)
            go_region
            go_wp2
            refine bodyPost_ret (results_none rfl _ _ _) rfl ⟨rfl, F.out⟩
        · have i8 : (s1.ch p == (x : Int)) = false := by simp [q2]
          have E : Hid (HeapG B wr H g cap { s1 with ch := up s1.ch p (s1.chP p x r) } least1 n) := by
            have e : s1.chP p x r = s1.ch p := (if_neg q1).trans (if_neg q2)
            have e2 : up s1.ch p (s1.ch p) = s1.ch := by
              funext j
              by_cases q : j = p
              · rw [q, up_same]
              · exact up_ne _ _ q
            rw [e, e2]
            exact HH.out
          have T : Hid (Tur (FootG H g) w wr) := TT.out
          clear HH TT q1 q2
          go_upto_region 6 with (fail)
          refine wp_name ?_
          intro w3 hw3
          rw [← hw3] at E T
          clear hw3 c0 cf x3 x6 p4 gf i7 i8
          have d0 : w3.cell? ⟨H, 0, none⟩ = some (.slice (some ⟨g, 0, none⟩) s1.m cap) := E.out.head.1
          have df := E.out.head.2.2.2
          go_wp2_with fail
          refine (leave_g x l r E.out HX.out HL.out HR.out EL.out ER.out).mono ?_
          rintro e w4 ⟨rfl, h4, t4⟩
          have T5 : Hid (Tur (FootG H g) w (w4.setCell ⟨g, p * 10 + 7, none⟩ (.int .i64 (s1.dg p - 1)))) := (T.out.then t4).then tur_g
          have H5 : Hid (HeapG B (w4.setCell ⟨g, p * 10 + 7, none⟩ (.int .i64 (s1.dg p - 1))) H g cap (s1.cutA p x l r) least1 n) := h4.set HP.out (by omega) (upd_dg _ p (s1.dg p - 1))
          have z0 : w4.cell? ⟨H, 0, none⟩ = some (.slice (some ⟨g, 0, none⟩) s1.m cap) := h4.head.1
          have zf := h4.head.2.2.2
          have z7 : w4.cell? ⟨g, p * 10 + 7, none⟩ = some (.int .i64 (s1.dg p)) := h4.cell HP.out (c := 7) (by omega)
          have yf := h4.free
          clear h4 t4 d0 df E T
          go_upto_region 8 with (fail)
          refine wp_name ?_
          intro w5 hw5
          rw [← hw5] at H5 T5
          have d0 : w5.cell? ⟨H, 0, none⟩ = some (.slice (some ⟨g, 0, none⟩) s1.m cap) := H5.out.head.1
          have df := H5.out.head.2.2.2
          clear hw5 z0 zf z7 yf
          go_wp2_with fail
          refine (root_g x H5.out HX.out HM1.out HKX.out HSP.out).mono ?_
          rintro e w6 ⟨rfl, h6, t6⟩
          rw [← ES2.out, ← EL2.out] at h6
          have T6 := hid (T5.out.then t6)
          have H6 := hid h6
          have z0 : w6.cell? ⟨H, 0, none⟩ = some (.slice (some ⟨g, 0, none⟩) s2.m cap) := h6.head.1
          have zf := h6.head.2.2.2
          have z8 : w6.cell? ⟨g, p * 10 + 8, none⟩ = some (.bool (s2.mr p)) := h6.cell HP2.out (c := 8) (by omega)
          have z3 : w6.cell? ⟨g, p * 10 + 3, none⟩ = some (.int .i64 (s2.par p)) := h6.cell HP2.out (c := 3) (by omega)
          have yf := h6.free
          have ip2 : (p : Int) < (s2.m : Int) := by have := HP2.out; omega
          clear h6 t6 d0 df H5 T5 jw ip
          cases hq : s2.mr p with
          | true =>
            rw [hq] at z8
            have HF : Hid (∃ kids' L', CW B w w6 H g cap x0 s least2 n s2 kids' L' p) := by
              obtain ⟨kids', L', f1, f2⟩ := HGO.out
              exact ⟨kids', L', H6.out, f1, f2, THP.out, HSM.out, T6.out, .inr TOP2.out⟩
            have HMS : Hid (ur s2 < gk) := by
              have := HUR.out
              rw [HGK.out] at this
              exact this
            clear HGO HUR HGK H6 T6 HPAID hq
            go_wp2
            go_roundg (ur s2)
            case rel =>
              obtain ⟨kids', L', f⟩ := HF.out
              exact ⟨p, s2, least2, kids', L', rfl, hid ⟨rfl, f⟩⟩
            case measure => exact HMS.out
          | false =>
            rw [hq] at z8
            have hb : (s2.par p != -1) = decide (s2.par p ≠ -1) := by by_cases q : s2.par p = -1 <;> simp [q]
            have H7 : Hid (HeapG B (w6.setCell ⟨g, p * 10 + 8, none⟩ (.bool (s2.par p != -1))).drew H g cap (s2.markP p) least2 n) := by
              have h7 := (H6.out.set HP2.out (by omega) (upd_mr _ p (s2.par p != -1))).drewn
              have e : ({ s2 with mr := up s2.mr p (s2.par p != -1) } : Hp) = s2.markP p := by
                unfold Hp.markP
                rw [hb]
              rw [← e]
              exact h7
            have F : Hid (∃ s' least', HeapG B (w6.setCell ⟨g, p * 10 + 8, none⟩ (.bool (s2.par p != -1))).drew H g cap s' least' n ∧ Good s' least' n ∧ SameK s s' ∧ s'.par x0 = -1 ∧ Tur (FootG H g) w (w6.setCell ⟨g, p * 10 + 8, none⟩ (.bool (s2.par p != -1))).drew) := by
              obtain ⟨kids', L', f1, f2⟩ := HPAID.out (by rw [← EMR.out]; exact hq)
              exact ⟨s2.markP p, least2, H7.out, END.out _ _ kids' L' HSM.out f1 f2, HSM.out, TOP2.out, (T6.out.then tur_g).then tur_drew⟩
            clear HGO HUR HGK H6 T6 H7 HPAID hb hq
            generalize s2.par p = pp at *
            go_upto_region 10 with (fail)
            go_region
            go_wp2
            refine bodyPost_ret (results_none rfl _ _ _) rfl ⟨rfl, F.out⟩
end Go.Proofs.Ythdbiablpkeagaa
