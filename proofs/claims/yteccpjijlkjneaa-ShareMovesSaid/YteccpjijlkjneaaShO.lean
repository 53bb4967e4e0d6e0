/- Chapter 15: Order. -/
import Derived.Test.YteccpjijlkjneaaShR
import Derived.Deep.LoopGhost
namespace Go.Proofs.Yteccpjijlkjneaa
open Go.RowKit Go.WideShapes
variable {B H H2 bw : Nat} {w w' wr : World}
/-- Usages that lie in memory. -/
def SlU (w : World) (A : Option Addr) (n : Nat) (l : List Us) : Prop := n = l.length ∧ (l = [] ∨ ∃ b off, A = some ⟨b, off, none⟩ ∧ b < w.heap.size ∧ ∀ j u, l[j]? = some u → w.cell? ⟨b, off + j * 6, none⟩ = some (.string u.name) ∧ w.cell? ⟨b, off + j * 6 + 1, none⟩ = some (.int .i64 u.wt) ∧ w.cell? ⟨b, off + j * 6 + 2, none⟩ = some (.int .i64 u.a) ∧ w.cell? ⟨b, off + j * 6 + 3, none⟩ = some (.int .i64 u.b) ∧ w.cell? ⟨b, off + j * 6 + 4, none⟩ = some (.int .i64 u.c) ∧ w.cell? ⟨b, off + j * 6 + 5, none⟩ = some (.int .i64 u.d))
theorem SlU.one {A : Option Addr} {n j : Nat} {l : List Us} {u : Us} (h : SlU w A n l) (hb : Below w.heap.size w w') (hj : l[j]? = some u) : ∃ b off, A = some ⟨b, off, none⟩ ∧ b < w'.heap.size ∧ w'.cell? ⟨b, off + j * 6, none⟩ = some (.string u.name) ∧ w'.cell? ⟨b, off + j * 6 + 1, none⟩ = some (.int .i64 u.wt) ∧ w'.cell? ⟨b, off + j * 6 + 2, none⟩ = some (.int .i64 u.a) ∧ w'.cell? ⟨b, off + j * 6 + 3, none⟩ = some (.int .i64 u.b) ∧ w'.cell? ⟨b, off + j * 6 + 4, none⟩ = some (.int .i64 u.c) ∧ w'.cell? ⟨b, off + j * 6 + 5, none⟩ = some (.int .i64 u.d) := by
  obtain ⟨h1, rfl | ⟨b, off, rfl, hl, hc⟩⟩ := h
  · cases hj
  · have q := hc j u hj
    refine ⟨b, off, rfl, Nat.lt_of_lt_of_le hl hb.size, ?_⟩
    rw [hb.cell hl, hb.cell hl, hb.cell hl, hb.cell hl, hb.cell hl, hb.cell hl]
    exact q
theorem SlU.below {A : Option Addr} {n : Nat} {l : List Us} (h : SlU w A n l) (hb : Below w.heap.size w w') : SlU w' A n l := by
  obtain ⟨h1, rfl | ⟨b, off, rfl, hl, hc⟩⟩ := h
  · exact ⟨h1, .inl rfl⟩
  · refine ⟨h1, .inr ⟨b, off, rfl, Nat.lt_of_lt_of_le hl hb.size, fun j u hj => ?_⟩⟩
    rw [hb.cell hl, hb.cell hl, hb.cell hl, hb.cell hl, hb.cell hl, hb.cell hl]
    exact hc j u hj
theorem row_base {B b n z : Nat} {v : Value} {T : TypeId} {xs : List Value} (h : w.ownsRow B T z v n xs) (hb : b ≤ B) : w.ownsRow b T z v n xs := by
  obtain ⟨h1, h2 | ⟨g, cap, cur, rfl, hg, rest⟩⟩ := h
  · exact ⟨h1, .inl h2⟩
  · exact ⟨h1, .inr ⟨g, cap, cur, rfl, Nat.le_trans hb hg, rest⟩⟩
abbrev vI (W : V4) : Array Value := #[.int .i64 W.1, .int .i64 W.2.1, .int .i64 W.2.2.1, .int .i64 W.2.2.2]
def nmK (l : List Us) : List (List UInt8) := l.map fun u => ky u.name
/-- What Order answers. -/
def OrdP (W : V4) (l : List Us) (b : Nat) (e : Ending) (w' : World) : Prop :=
  (errO W l ≠ 0 ∧ e = .returned (.tuple #[.slice none 0 0, .int .i64 (errO W l)])) ∨ (errO W l = 0 ∧ ∃ v s, SrtO W l s ∧ e = .returned (.tuple #[v, .int .i64 0]) ∧ w'.ownsRow b 9 1 v l.length (rowK (nmK s)))
/-- What stands while Order goes on: the box of the whole. -/
structure Ld (w : World) (bw B1 : Nat) (W : V4) (wr : World) : Prop where
  lo : bw < B1 ∧ w.heap.size ≤ B1
  bel : Below w.heap.size w wr
  whole : wr.heap[bw]? = some (.cells (vI W) 23 (0, 0))
  sz : B1 ≤ wr.heap.size
theorem Ld.next {B1 : Nat} {W : V4} (h : Ld w bw B1 W wr) (hb : Below B1 wr w') : Ld w bw B1 W w' := ⟨h.lo, h.bel.trans (hb.mono h.lo.2), below_at hb h.lo.1 h.whole, Nat.le_trans h.sz hb.size⟩
theorem Ld.below {B1 : Nat} {W : V4} (h : Ld w bw B1 W wr) (hb : Below wr.heap.size wr w') : Ld w bw B1 W w' := h.next (hb.mono h.sz)
theorem nmK_take {l : List Us} {i : Nat} {u : Us} (h : l[i]? = some u) : nmK (l.take (i + 1)) = nmK (l.take i) ++ [ky u.name] := by
  unfold nmK
  rw [List.take_add_one, h, List.map_append]; rfl
theorem errO_dup {W : V4} {l : List Us} (h : fstE W l = 0) (h2 : ¬ (nmK l).Nodup) : errO W l = 5 := by
  unfold errO
  rw [if_neg (fun q => q h)]
  exact if_neg h2
theorem errO_fst {W : V4} {l : List Us} {z : Int} (h : fstE W l = z) (hz : z ≠ 0) : errO W l = z := by
  unfold errO
  rw [h, if_pos hz]
set_option maxRecDepth 100000 in
set_option maxHeartbeats 16000000 in
theorem order_any {A : Option Addr} {n cap : Nat} {l : List Us} (W : V4) (h : SlU w A n l) (hn : n ≤ 1000) :
    Calls Try.prog 9 #[.agg (vI W), .slice A n cap] w fun e w' => OrdP W l w.heap.size e w' ∧ Below w.heap.size w w' := by
  have HS := hid h
  have HL : Hid (n = l.length) := h.1
  have hnb : (n : Int) ≤ 1000 := by omega
  have HN := hid hn
  have HPS : Hid (∀ (u : Us) (p q z : Int), sh W u = ((p, q), z) → ∀ X, Calls Try.prog 17 #[.agg #[.int .i64 u.a, .int .i64 u.b, .int .i64 u.c, .int .i64 u.d], .agg (vI W), .int .i64 u.wt] X fun e w' => e = .returned (.tuple #[.agg #[.int .u64 p, .int .u64 q], .int .i64 z]) ∧ Below X.heap.size X w') := fun u p q z hr X => by
    have := share_any u.a u.b u.c u.d W.1 W.2.1 W.2.2.1 W.2.2.2 u.wt X
    unfold sh at hr
    rw [hr] at this
    exact this
  obtain ⟨Wa, Wb, Wc, Wd⟩ := W
  obtain ⟨W, hW⟩ : ∃ W : V4, W = (Wa, Wb, Wc, Wd) := ⟨_, rfl⟩
  rw [← hW] at HPS ⊢
  have HW := hid hW
  have hvI : vI W = #[.int .i64 Wa, .int .i64 Wb, .int .i64 Wc, .int .i64 Wd] := by rw [hW]
  rw [hvI] at HPS ⊢
  clear h hn hW
  go_enter Try.func9, Try.ntmps9
  go_upto_region 1 with (fail)
  refine wp_name ?_
  intro w1 hw1
  have b1 : Below w.heap.size w w1 := by rw [hw1]; exact (by repeat (first | with_reducible assumption | with_reducible exact Below.refl _ _ | with_reducible refine Below.drew ?_ | with_reducible refine below_drewN ?_ _ | with_reducible refine below_alloc ?_ _ | with_reducible refine Below.alloc ?_ (by first | omega | (simp; done) | (simp; omega)) _ | with_reducible refine Below.setCell ?_ (by first | omega | (simp; done) | (simp; omega)) _ | with_reducible refine below_setRow ?_ (by first | omega | (simp; done) | (simp; omega)) _))
  have X1 : w1.heap[w.heap.size]? = some (.cells #[.int .i64 Wa, .int .i64 Wb, .int .i64 Wc, .int .i64 Wd] 23 (0, 0)) := by rw [hw1]; exact at_of (by apply Exists.intro; refine ⟨?_, ?_⟩; (focus ((repeat (first | (with_reducible assumption) | (with_reducible exact alloc_at _ _) | ((with_reducible apply alloc_at'); (simp; done)) | (with_reducible apply alloc_at_lt) | (with_reducible apply heap_drew_at) | (with_reducible apply heap_drewN_at) | (with_reducible apply heap_setCell_same) | ((with_reducible apply heap_set_ne); (first | omega | (dsimp only; omega) | (simp; done) | (simp; omega))) | (with_reducible apply setRow_at) | ((with_reducible apply setRow_ne); (first | omega | (dsimp only; omega) | (simp; done) | (simp; omega))))))); simp)
  rw [← hvI] at X1
  obtain ⟨bw, hbw⟩ : ∃ x, x = w.heap.size := ⟨_, rfl⟩
  obtain ⟨B1, hB1⟩ : ∃ x, x = w1.heap.size := ⟨_, rfl⟩
  have HI1 : Hid (Ld w bw B1 W w1 ∧ w1.ownsRow B1 9 1 (.slice none 0 0) 0 (rowK (nmK (l.take 0))) ∧ fstE W (l.take 0) = 0) :=
    ⟨⟨⟨by rw [hbw, hB1]; exact lt_of_at X1, by rw [hB1]; exact b1.size⟩, b1, by rw [hbw]; exact X1, by rw [hB1]; exact Nat.le_refl _⟩, by rw [List.take_zero]; exact World.ownsRow_nil _ _ _ _, rfl⟩
  rw [← hbw]
  have HBW := hid hbw
  clear hw1 b1 X1 hbw hB1
  go_wp2_with fail
  go_loopw [6, 24] (fun sv iv wr => ∃ (i : Nat) (v : Value), i ≤ n ∧ v = sv ∧ iv = .int .i64 i ∧ Hid (Ld w bw B1 W wr ∧ wr.ownsRow B1 9 1 v i (rowK (nmK (l.take i))) ∧ fstE W (l.take i) = 0)) (fun _ iv _ => n - (intOf iv).toNat)
  case atStart => exact ⟨0, _, Nat.zero_le _, rfl, rfl, HI1⟩
  case round =>
    clear HI1
    obtain ⟨i, v, hi, rfl, rfl, HI⟩ := hrel
    by_cases hin : i < n
    · have HK1 : Hid (i + 1 ≤ n) := hin
      have HMS : Hid (n - (i + 1) < n - i) := by unfold Hid; omega
      have hii : (i : Int) < (n : Int) := by omega
      have hib : (i : Int) ≤ 1000 := by omega
      have HIB : Hid (i ≤ 1000) := by unfold Hid; omega
      obtain ⟨u, hu⟩ : ∃ u, l[i]? = some u := ⟨_, List.getElem?_eq_getElem (by have := HL.out; omega)⟩
      have HU := hid hu
      obtain ⟨⟨⟨p, q⟩, z⟩, hr⟩ : ∃ r, sh W u = r := ⟨_, rfl⟩
      have HR := hid hr
      have HP := hid (HPS.out u p q z hr)
      obtain ⟨b, off, rfl, hbr, c0, c1, c2, c3, c4, c5⟩ := HS.out.one HI.out.1.bel hu
      obtain ⟨A0, cap0, rfl⟩ := row_slice HI.out.2.1
      have hlw := lt_of_at HI.out.1.whole
      clear hr hu hi hin
      go_upto_region 5 with (fail)
      refine wp_name ?_
      intro w2 hw2
      have b2 : Below wr.heap.size wr w2 := by rw [hw2]; exact (by repeat (first | with_reducible assumption | with_reducible exact Below.refl _ _ | with_reducible refine Below.drew ?_ | with_reducible refine below_drewN ?_ _ | with_reducible refine below_alloc ?_ _ | with_reducible refine Below.alloc ?_ (by first | omega | (simp; done) | (simp; omega)) _ | with_reducible refine Below.setCell ?_ (by first | omega | (simp; done) | (simp; omega)) _ | with_reducible refine below_setRow ?_ (by first | omega | (simp; done) | (simp; omega)) _))
      have X2 : w2.heap[wr.heap.size]? = some (.cells #[.string u.name, .int .i64 u.wt, .int .i64 u.a, .int .i64 u.b, .int .i64 u.c, .int .i64 u.d] 37 (0, 0)) := by rw [hw2]; exact at_of (by apply Exists.intro; refine ⟨?_, ?_⟩; (focus ((repeat (first | (with_reducible assumption) | (with_reducible exact alloc_at _ _) | ((with_reducible apply alloc_at'); (simp; done)) | (with_reducible apply alloc_at_lt) | (with_reducible apply heap_drew_at) | (with_reducible apply heap_drewN_at) | (with_reducible apply heap_setCell_same) | ((with_reducible apply heap_set_ne); (first | omega | (dsimp only; omega) | (simp; done) | (simp; omega))) | (with_reducible apply setRow_at) | ((with_reducible apply setRow_ne); (first | omega | (dsimp only; omega) | (simp; done) | (simp; omega))))))); simp)
      have HX2 := hid X2
      have HI2 : Hid (Ld w bw B1 W w2 ∧ w2.ownsRow B1 9 1 (.slice A0 i cap0) i (rowK (nmK (l.take i))) ∧ fstE W (l.take i) = 0) := ⟨HI.out.1.below b2, row_at HI.out.2.1 b2, HI.out.2.2⟩
      obtain ⟨bu, hbu⟩ : ∃ x, x = wr.heap.size := ⟨_, rfl⟩
      rw [← hbu] at X2 HX2 ⊢
      have Y2 := HI2.out.1.whole
      rw [hvI] at Y2
      have u0 := (blk_cell X2 0).trans rfl
      have u1 := (blk_cell X2 1).trans rfl
      have u2 := (blk_cell X2 2).trans rfl
      have u3 := (blk_cell X2 3).trans rfl
      have u4 := (blk_cell X2 4).trans rfl
      have u5 := (blk_cell X2 5).trans rfl
      obtain ⟨y0, y1, y2, y3, -⟩ := four Y2
      have hl1 := lt_of_at X2
      have hl2 := lt_of_at Y2
      clear hw2 b2 X2 Y2 hbu hbr c0 c1 c2 c3 c4 c5 HI hlw
      go_wp2_with fail
      refine (HP.out _).mono ?_
      rintro e w3 ⟨rfl, hb3⟩
      have HX3 := hid (below_at hb3 hl1 HX2.out)
      have HI3 : Hid (Ld w bw B1 W w3 ∧ w3.ownsRow B1 9 1 (.slice A0 i cap0) i (rowK (nmK (l.take i))) ∧ fstE W (l.take i) = 0) := ⟨HI2.out.1.below hb3, row_at HI2.out.2.1 hb3, HI2.out.2.2⟩
      clear hb3 HI2 HP HX2 u0 u1 u2 u3 u4 u5 y0 y1 y2 y3 hl1 hl2
      have hl3 := lt_of_at HX3.out
      go_upto_region 6 with (fail)
      refine wp_name ?_
      intro w4 hw4
      have b4 : Below w3.heap.size w3 w4 := by rw [hw4]; exact (by repeat (first | with_reducible assumption | with_reducible exact Below.refl _ _ | with_reducible refine Below.drew ?_ | with_reducible refine below_drewN ?_ _ | with_reducible refine below_alloc ?_ _ | with_reducible refine Below.alloc ?_ (by first | omega | (simp; done) | (simp; omega)) _ | with_reducible refine Below.setCell ?_ (by first | omega | (simp; done) | (simp; omega)) _ | with_reducible refine below_setRow ?_ (by first | omega | (simp; done) | (simp; omega)) _))
      have HX4 := hid (below_at b4 hl3 HX3.out)
      have HI4 : Hid (Ld w bw B1 W w4 ∧ w4.ownsRow B1 9 1 (.slice A0 i cap0) i (rowK (nmK (l.take i))) ∧ fstE W (l.take i) = 0) := ⟨HI3.out.1.below b4, row_at HI3.out.2.1 b4, HI3.out.2.2⟩
      clear hw4 b4 HX3 HI3 hl3
      by_cases hz : z = 0
      · subst hz
        have x0 := (blk_cell HX4.out 0).trans rfl
        have hl4 := lt_of_at HX4.out
        obtain ⟨A5, cap5, w5, happ, hown, hb5, -⟩ := app_rowK HI4.out.2.1 (by have := HIB.out; omega) HI4.out.1.sz u.name
        have HAPP := hid happ
        have HI5 : Hid (Ld w bw B1 W w5 ∧ w5.ownsRow B1 9 1 (.slice A5 (i + 1) cap5) (i + 1) (rowK (nmK (l.take (i + 1)))) ∧ fstE W (l.take (i + 1)) = 0) :=
          ⟨HI4.out.1.next hb5, by rw [nmK_take HU.out]; exact hown, by rw [fstE_take HU.out, HI4.out.2.2, if_neg (fun q => q rfl), HR.out]⟩
        clear happ hown hb5 HI4
        go_wp2_with (first | (at_builtin; refine wpList_append_eq rfl _ _ _ rfl rfl rfl HAPP.out ?_))
        go_roundw
        case rel => exact ⟨i + 1, _, HK1.out, rfl, by go_num, HI5⟩
        case measure => have := HMS.out; simp [intOf]; omega
      · have hz' : (z == 0) = false := by simpa using hz
        have hz2 : (z != 0) = true := by simpa using hz
        have F : errO W l = z := errO_fst (by have := fstE_bad HU.out HI4.out.2.2 (by rw [HR.out]; exact hz); rw [HR.out] at this; exact this) hz
        have FIN : Hid (errO W l = z ∧ z ≠ 0 ∧ Below w.heap.size w w4) := ⟨F, hz, HI4.out.1.bel⟩
        clear F hz HI4
        go_wp2
        go_ret2
        refine ⟨.inl ⟨by rw [FIN.out.1]; exact FIN.out.2.1, by rw [FIN.out.1]; rfl⟩, ?_⟩
        exact FIN.out.2.2
    · obtain rfl : i = n := by omega
      have hii : ¬ (i : Int) < (i : Int) := by omega
      obtain ⟨A0, cap0, rfl⟩ := row_slice HI.out.2.1
      have HI1 : Hid (Ld w bw B1 W wr ∧ wr.ownsRow B1 9 1 (.slice A0 i cap0) i (rowK (nmK l)) ∧ fstE W l = 0) := by
        have := HI.out
        rw [List.take_of_length_le (by have := HL.out; omega)] at this
        exact this
      have HSO := hid (sort_rowK HI1.out.2.1 (by have := HN.out; omega))
      clear hi hin HI
      go_wp2_with fail
      refine HSO.out.mono ?_
      rintro e w2 ⟨rfl, hrow2, hg2⟩
      have HI2 : Hid (Ld w bw B1 W w2 ∧ w2.ownsRow B1 9 1 (.slice A0 i cap0) i (rowK (sortK (nmK l))) ∧ fstE W l = 0) := ⟨HI1.out.1.next ((Tur.of_grown (F := fun k => (Value.slice A0 i cap0).ownBlock = some k) hg2 (fun g hg => .inl hg)).below HI1.out.1.sz (fun k hk => (HI1.out.2.1.lt k hk).1)), hrow2, HI1.out.2.2⟩
      have HCL := hid (clone_rowK HI2.out.2.1 (by have := HN.out; omega))
      clear hrow2 hg2 HI1 HSO
      go_wp2_with fail
      refine HCL.out.mono ?_
      rintro e w3 ⟨v3, rfl, hrow3, hb3⟩
      have HI3 : Hid (Ld w bw B1 W w3 ∧ w3.ownsRow B1 9 1 (.slice A0 i cap0) i (rowK (sortK (nmK l))) ∧ fstE W l = 0) := ⟨HI2.out.1.below hb3, row_at HI2.out.2.1 hb3, HI2.out.2.2⟩
      have HO3 : Hid (∀ g, (Value.slice A0 i cap0).ownBlock = some g → g < w2.heap.size) := fun g hg => (HI2.out.2.1.lt g hg).2
      have HS3 : Hid (B1 ≤ w2.heap.size) := HI2.out.1.sz
      have HZ3 : Hid (w2.heap.size ≤ w3.heap.size) := hb3.size
      have HR3 := hid hrow3
      have HCO := hid (compact_rowK hrow3 (by have := HN.out; omega))
      obtain ⟨A3, cap3, rfl⟩ := row_slice hrow3
      clear hrow3 hb3 HI2 HCL
      go_wp2_with fail
      refine HCO.out.mono ?_
      rintro e w4 ⟨⟨A4, cap4, rfl⟩, hg4⟩
      have hb4 : Below w2.heap.size w3 w4 := (Tur.of_grown (F := fun k => (Value.slice A3 i cap3).ownBlock = some k) hg4 (fun g hg => .inl hg)).below HZ3.out (fun k hk => (HR3.out.lt k hk).1)
      have HI4 : Hid (Ld w bw B1 W w4 ∧ w4.ownsRow B1 9 1 (.slice A0 i cap0) i (rowK (sortK (nmK l))) ∧ fstE W l = 0) := ⟨HI3.out.1.next (hb4.mono HS3.out), row_kept HI3.out.2.1 (fun g hg => hb4.block g (HO3.out g hg)), HI3.out.2.2⟩
      have hdup := compact_dup (sortK_le (nmK l))
      rw [(sortK_perm (nmK l)).nodup_iff, List.length_mergeSort] at hdup
      have hln : (nmK l).length = i := by unfold nmK; rw [List.length_map]; exact HL.out.symm
      rw [hln] at hdup
      generalize (Go.Lib.compact (sortK (nmK l))).length = M at *
      have HGE : Hid (w2.heap.size ≤ w4.heap.size) := Nat.le_trans HZ3.out hb4.size
      clear hg4 hb4 HI3 HCO HR3 HZ3
      by_cases hnd : (nmK l).Nodup
      case neg =>
        have hM : (M : Int) < (i : Int) := by have := hdup.2 hnd; omega
        have FIN : Hid (errO W l = 5 ∧ Below w.heap.size w w4) := ⟨errO_dup HI4.out.2.2 hnd, HI4.out.1.bel⟩
        clear hdup hnd hln HI4
        go_wp2
        go_ret2
        exact ⟨.inl ⟨by rw [FIN.out.1]; decide, by rw [FIN.out.1]; rfl⟩, FIN.out.2⟩
      case pos =>
      have hM : ¬ (M : Int) < (i : Int) := by
        have : ¬ M < i := fun q => hdup.1 q hnd
        omega
      have HND : Hid ((nmK l).Nodup) := hnd
      obtain ⟨ns, hns⟩ : ∃ ns, ns = sortK (nmK l) := ⟨_, rfl⟩
      have HNS : Hid (ns.Perm (nmK l) ∧ ns.Pairwise (fun x y => x < y) ∧ ns.length = i) := by
        rw [hns]
        exact ⟨sortK_perm _, sortK_lt hnd, by rw [List.length_mergeSort]; exact hln⟩
      rw [← hns] at HI4
      have HOK : Hid (∀ u ∈ l, (sh W u).2 = 0) := fstE_zero.1 HI4.out.2.2
      have HE0 : Hid (errO W l = 0) := errO_zero.2 ⟨HOK.out, hnd⟩
      clear hdup hnd hln hns
      go_wp2_with fail
      refine (newh_g w4.heap.size w4 (Nat.le_refl _)).mono ?_
      rintro e w5 ⟨rfl, hb5, hH5⟩
      obtain ⟨H, hH⟩ : ∃ x, x = w4.heap.size := ⟨_, rfl⟩
      have HHB : Hid (B1 ≤ H ∧ ∀ g, (Value.slice A0 i cap0).ownBlock = some g → g < H) := by
        rw [hH]
        exact ⟨Nat.le_trans HS3.out HGE.out, fun g hg => Nat.lt_of_lt_of_le (HO3.out g hg) HGE.out⟩
      have HBH : Hid (w.heap.size ≤ B1 ∧ bw < B1) := ⟨HI4.out.1.lo.2, HI4.out.1.lo.1⟩
      rw [← hH] at hH5 ⊢
      have HI5 : Hid (Ld w bw B1 W w5 ∧ w5.ownsRow B1 9 1 (.slice A0 i cap0) i (rowK ns) ∧ HeapV H w5 H (.slice none 0 0) hp0 0 (0 : Nat) ∧ Good hp0 0 (0 : Nat) ∧ InK W l ns hp0 0) :=
        ⟨HI4.out.1.below hb5, row_at HI4.out.2.1 hb5, hH5, good0, rfl, fun z => by simp [hp0], fun z u hz => by omega⟩
      clear hb5 hH5 hH HI4 HS3 HGE HO3
      go_wp2_with fail
      go_loopw [58] (fun jv wr => ∃ (j : Nat) (v : Value) (s : Hp) (least : Int), j ≤ i ∧ jv = .int .i64 j ∧ Hid (Ld w bw B1 W wr ∧ wr.ownsRow B1 9 1 (.slice A0 i cap0) i (rowK ns) ∧ HeapV H wr H v s least j ∧ Good s least j ∧ InK W l ns s j)) (fun jv _ => i - (intOf jv).toNat)
      case atStart => exact ⟨0, _, _, _, Nat.zero_le _, rfl, HI5⟩
      case round =>
        clear HI5 hM hii
        obtain ⟨j, v, s, least, hj, rfl, HI⟩ := hrel
        by_cases hjn : j < i
        · have HJ1 : Hid (j + 1 ≤ i) := hjn
          have HMS : Hid (i - (j + 1) < i - j) := by unfold Hid; omega
          have hjj : (j : Int) < (i : Int) := by omega
          have hjb : (j : Int) ≤ 1000 := by omega
          have HJB : Hid (j ≤ 1000) := by unfold Hid; omega
          obtain ⟨u, hu⟩ : ∃ u, l[j]? = some u := ⟨_, List.getElem?_eq_getElem (by have := HL.out; omega)⟩
          have HU := hid hu
          have HUL : Hid (u ∈ l) := List.mem_of_getElem? hu
          obtain ⟨⟨⟨p, q⟩, z⟩, hr⟩ : ∃ r, sh W u = r := ⟨_, rfl⟩
          have HR := hid hr
          have hz : z = 0 := by have := HOK.out u HUL.out; rw [hr] at this; exact this
          subst hz
          have HP := hid (HPS.out u p q 0 hr)
          obtain ⟨b, off, rfl, hbr, c0, c1, c2, c3, c4, c5⟩ := HS.out.one HI.out.1.bel hu
          have hlw := lt_of_at HI.out.1.whole
          clear hr hu hj hjn
          go_upto_region 17 with (fail)
          refine wp_name ?_
          intro w2 hw2
          have b2 : Below wr.heap.size wr w2 := by rw [hw2]; exact (by repeat (first | with_reducible assumption | with_reducible exact Below.refl _ _ | with_reducible refine Below.drew ?_ | with_reducible refine below_drewN ?_ _ | with_reducible refine below_alloc ?_ _ | with_reducible refine Below.alloc ?_ (by first | omega | (simp; done) | (simp; omega)) _ | with_reducible refine Below.setCell ?_ (by first | omega | (simp; done) | (simp; omega)) _ | with_reducible refine below_setRow ?_ (by first | omega | (simp; done) | (simp; omega)) _))
          have X2 : w2.heap[wr.heap.size]? = some (.cells #[.string u.name, .int .i64 u.wt, .int .i64 u.a, .int .i64 u.b, .int .i64 u.c, .int .i64 u.d] 37 (0, 0)) := by rw [hw2]; exact at_of (by apply Exists.intro; refine ⟨?_, ?_⟩; (focus ((repeat (first | (with_reducible assumption) | (with_reducible exact alloc_at _ _) | ((with_reducible apply alloc_at'); (simp; done)) | (with_reducible apply alloc_at_lt) | (with_reducible apply heap_drew_at) | (with_reducible apply heap_drewN_at) | (with_reducible apply heap_setCell_same) | ((with_reducible apply heap_set_ne); (first | omega | (dsimp only; omega) | (simp; done) | (simp; omega))) | (with_reducible apply setRow_at) | ((with_reducible apply setRow_ne); (first | omega | (dsimp only; omega) | (simp; done) | (simp; omega))))))); simp)
          have HX2 := hid X2
          have HI2 : Hid (Ld w bw B1 W w2 ∧ w2.ownsRow B1 9 1 (.slice A0 i cap0) i (rowK ns) ∧ HeapV H w2 H v s least j ∧ Good s least j ∧ InK W l ns s j) := ⟨HI.out.1.below b2, row_at HI.out.2.1 b2, HI.out.2.2.1.below b2, HI.out.2.2.2⟩
          obtain ⟨bu, hbu⟩ : ∃ x, x = wr.heap.size := ⟨_, rfl⟩
          rw [← hbu] at X2 HX2 ⊢
          have Y2 := HI2.out.1.whole
          rw [hvI] at Y2
          have u0 := (blk_cell X2 0).trans rfl
          have u1 := (blk_cell X2 1).trans rfl
          have u2 := (blk_cell X2 2).trans rfl
          have u3 := (blk_cell X2 3).trans rfl
          have u4 := (blk_cell X2 4).trans rfl
          have u5 := (blk_cell X2 5).trans rfl
          obtain ⟨y0, y1, y2, y3, -⟩ := four Y2
          have hl1 := lt_of_at X2
          have hl2 := lt_of_at Y2
          clear hw2 b2 X2 Y2 hbu hbr c0 c1 c2 c3 c4 c5 HI hlw
          go_wp2_with fail
          refine (HP.out _).mono ?_
          rintro e w3 ⟨rfl, hb3⟩
          have HX3 := hid (below_at hb3 hl1 HX2.out)
          have HI3 : Hid (Ld w bw B1 W w3 ∧ w3.ownsRow B1 9 1 (.slice A0 i cap0) i (rowK ns) ∧ HeapV H w3 H v s least j ∧ Good s least j ∧ InK W l ns s j) := ⟨HI2.out.1.below hb3, row_at HI2.out.2.1 hb3, HI2.out.2.2.1.below hb3, HI2.out.2.2.2⟩
          clear hb3 HI2 HP HX2 u0 u1 u2 u3 u4 u5 y0 y1 y2 y3 hl1 hl2
          have hl3 := lt_of_at HX3.out
          go_upto_region 18 with (fail)
          refine wp_name ?_
          intro w4 hw4
          have b4 : Below w3.heap.size w3 w4 := by rw [hw4]; exact (by repeat (first | with_reducible assumption | with_reducible exact Below.refl _ _ | with_reducible refine Below.drew ?_ | with_reducible refine below_drewN ?_ _ | with_reducible refine below_alloc ?_ _ | with_reducible refine Below.alloc ?_ (by first | omega | (simp; done) | (simp; omega)) _ | with_reducible refine Below.setCell ?_ (by first | omega | (simp; done) | (simp; omega)) _ | with_reducible refine below_setRow ?_ (by first | omega | (simp; done) | (simp; omega)) _))
          have HX4 := hid (below_at b4 hl3 HX3.out)
          have X4 : w4.heap[w3.heap.size]? = some (.cells #[.int .u64 p, .int .u64 q] 48 (0, 0)) := by rw [hw4]; exact at_of (by apply Exists.intro; refine ⟨?_, ?_⟩; (focus ((repeat (first | (with_reducible assumption) | (with_reducible exact alloc_at _ _) | ((with_reducible apply alloc_at'); (simp; done)) | (with_reducible apply alloc_at_lt) | (with_reducible apply heap_drew_at) | (with_reducible apply heap_drewN_at) | (with_reducible apply heap_setCell_same) | ((with_reducible apply heap_set_ne); (first | omega | (dsimp only; omega) | (simp; done) | (simp; omega))) | (with_reducible apply setRow_at) | ((with_reducible apply setRow_ne); (first | omega | (dsimp only; omega) | (simp; done) | (simp; omega))))))); simp)
          obtain ⟨br, hbr⟩ : ∃ x, x = w3.heap.size := ⟨_, rfl⟩
          rw [← hbr] at X4 ⊢
          have HXR := hid X4
          have HI4 : Hid (Ld w bw B1 W w4 ∧ w4.ownsRow B1 9 1 (.slice A0 i cap0) i (rowK ns) ∧ HeapV H w4 H v s least j ∧ Good s least j ∧ InK W l ns s j) := ⟨HI3.out.1.below b4, row_at HI3.out.2.1 b4, HI3.out.2.2.1.below b4, HI3.out.2.2.2⟩
          clear hw4 b4 HX3 HI3 hl3 X4 hbr
          have x0 := (blk_cell HX4.out 0).trans rfl
          have hl4 := lt_of_at HX4.out
          obtain ⟨rk, hrk⟩ : ∃ rk, rk = ns.idxOf (ky u.name) := ⟨_, rfl⟩
          have HRK := hid hrk
          have hrank : ∃ h : rk < ns.length, ns[rk] = ky u.name := by
            rw [hrk]
            exact rank_at HNS.out.1 HUL.out
          obtain ⟨hr1, hr2⟩ := hrank
          have HSE := hid (search_rowK HI4.out.2.1 (by have := HN.out; omega) HNS.out.2.1 u.name hr1 hr2)
          clear hrk hr1 hr2
          go_wp2_with fail
          refine HSE.out.mono ?_
          rintro e w5 ⟨rfl, hb5⟩
          have X5 := below_at hb5 (lt_of_at HXR.out) HXR.out
          have HI5 : Hid (Ld w bw B1 W w5 ∧ w5.ownsRow B1 9 1 (.slice A0 i cap0) i (rowK ns) ∧ HeapV H w5 H v s least j ∧ Good s least j ∧ InK W l ns s j) := ⟨HI4.out.1.below hb5, row_at HI4.out.2.1 hb5, HI4.out.2.2.1.below hb5, HI4.out.2.2.2⟩
          obtain ⟨p0, p1, -⟩ := two X5
          have hl5 := lt_of_at X5
          have hokk : okK (kOf W ns u) := sh_ok (HOK.out u HUL.out)
          have HIN := insert_ok (kOf W ns u) HI5.out.2.2.1 HI5.out.2.2.2.1 hokk (by rw [HI5.out.2.2.2.2.m]; omega)
          have ek : kOf W ns u = (p, q, (rk : Int)) := by
            unfold kOf
            rw [HR.out, HRK.out]
          rw [ek] at HIN
          simp only at HIN
          have HEK := hid ek
          clear hb5 HI4 HSE HX4 HXR x0 hl4 X5 hokk ek
          go_wp2_with fail
          refine HIN.mono ?_
          rintro e w6 ⟨rfl, v', s', least', hH6, hG6, hsk6, hgr6, ht6⟩
          have hb6 : Below H w5 w6 := ht6.below HI5.out.2.2.1.le (fun k hk => HI5.out.2.2.1.foot k hk)
          have e6 : (j : Int) + 1 = ((j + 1 : Nat) : Int) := by omega
          rw [e6] at hH6 hG6
          have HI6 : Hid (Ld w bw B1 W w6 ∧ w6.ownsRow B1 9 1 (.slice A0 i cap0) i (rowK ns) ∧ HeapV H w6 H v' s' least' (j + 1 : Nat) ∧ Good s' least' (j + 1 : Nat) ∧ InK W l ns s' (j + 1)) :=
            ⟨HI5.out.1.next (hb6.mono HHB.out.1), row_kept HI5.out.2.1 (fun g hg => hb6.block g (HHB.out.2 g hg)), hH6, hG6, HI5.out.2.2.2.2.next HU.out (by rw [HEK.out]; exact hsk6)⟩
          clear hH6 hG6 hsk6 hgr6 ht6 hb6 e6 HIN HI5 p0 p1 hl5
          go_wp2
          go_roundw
          case rel => exact ⟨j + 1, _, _, _, HJ1.out, by go_num, HI6⟩
          case measure => have := HMS.out; simp [intOf]; omega
        · obtain rfl : j = i := by omega
          have hjj : ¬ (j : Int) < (j : Int) := by omega
          obtain ⟨B3, hB3⟩ : ∃ x, x = wr.heap.size := ⟨_, rfl⟩
          have HB3 : Hid (B1 ≤ B3 ∧ (∀ k, FootV H v k → k < B3) ∧ ∀ g, (Value.slice A0 j cap0).ownBlock = some g → g < B3) := by
            rw [hB3]
            refine ⟨HI.out.1.sz, fun k hk => ?_, fun g hg => (HI.out.2.1.lt g hg).2⟩
            rcases hk with rfl | e
            · exact HI.out.2.2.1.ltH
            · exact (HI.out.2.2.1.row.lt k e).2
          have hps : PopS W l ns s [] := PopS.start (by have := HI.out.2.2.2.2; rw [HL.out] at this; exact this)
          have HI6 : Hid (Ld w bw B3 W wr ∧ wr.ownsRow B1 9 1 (.slice A0 j cap0) j (rowK ns) ∧ HeapV H wr H v s least ((j : Int) - (0 : Nat)) ∧ Good s least ((j : Int) - (0 : Nat)) ∧ PopS W l ns s [] ∧ wr.ownsRow B3 9 1 (.slice none 0 0) 0 (rowK (namesO l []))) := by
            obtain ⟨h1, h2, h3, h4, -⟩ := HI.out
            refine ⟨⟨⟨Nat.lt_of_lt_of_le h1.lo.1 HB3.out.1, Nat.le_trans h1.lo.2 HB3.out.1⟩, h1.bel, h1.whole, by rw [hB3]; exact Nat.le_refl _⟩, h2, ?_, ?_, hps, World.ownsRow_nil _ _ _ _⟩
            · rw [show ((j : Int) - (0 : Nat)) = (j : Int) by omega]; exact h3
            · rw [show ((j : Int) - (0 : Nat)) = (j : Int) by omega]; exact h4
          clear hB3 hps HI hj hjn
          go_wp2_with fail
          go_loopg [18] (j + 1) (fun gk ov wr => ∃ (s : Hp) (least : Int) (ps : List Nat) (o : Value), ps.length + gk = j + 1 ∧ o = ov ∧ Hid (Ld w bw B3 W wr ∧ wr.ownsRow B1 9 1 (.slice A0 j cap0) j (rowK ns) ∧ HeapV H wr H v s least ((j : Int) - ps.length) ∧ Good s least ((j : Int) - ps.length) ∧ PopS W l ns s ps ∧ wr.ownsRow B3 9 1 o ps.length (rowK (namesO l ps))))
          case atStart => exact ⟨s, least, [], _, by simp, rfl, HI6⟩
          case round =>
            clear HI6 hjj
            obtain ⟨s1, least1, ps, o, hg, rfl, HI⟩ := hrel
            have HLE := len_g HI.out.2.2.1
            have hps := HI.out.2.2.2.2.1.len
            have hpb : (ps.length : Int) ≤ 1000 := by have := HN.out; have := HL.out; omega
            have HPB : Hid (ps.length ≤ 1000) := by unfold Hid; omega
            obtain ⟨A7, cap7, rfl⟩ := row_slice HI.out.2.2.2.2.2
            go_wp2_with fail
            refine HLE.mono ?_
            rintro e w2 ⟨rfl, rfl⟩
            by_cases hpj : ps.length < j
            · have hpp : (0 : Int) < (j : Int) - (ps.length : Int) := by omega
              have HG1 : Hid (ps.length + 1 ≤ j) := hpj
              have HGK := hid hg
              obtain ⟨x, tx, -, -, hmin, hpop⟩ := pop_v HI.out.2.2.1 HI.out.2.2.2.1 hpp
              have HPOP := hid (hpop wr (Below.refl _ _))
              have HTX := hid tx
              have HMIN := hid hmin
              have hx := (PopS.next (s' := s1.clear x) HI.out.2.2.2.2.1 tx hmin ⟨rfl, rfl, rfl⟩).1
              obtain ⟨u, hu⟩ : ∃ u, l[x]? = some u := ⟨_, List.getElem?_eq_getElem hx.1⟩
              have HU := hid hu
              have HUL : Hid (u ∈ l) := List.mem_of_getElem? hu
              have hkey := HI.out.2.2.2.2.1.key x u hx.2 hu
              obtain ⟨rk, hrk⟩ : ∃ rk, rk = ns.idxOf (ky u.name) := ⟨_, rfl⟩
              obtain ⟨⟨⟨p, q⟩, z⟩, hr⟩ : ∃ r, sh W u = r := ⟨_, rfl⟩
              have ek : keyV (s1.key x) = .agg #[.int .u64 p, .int .u64 q, .int .i64 (rk : Int)] := by
                rw [hkey]
                unfold keyV kOf
                rw [hr, hrk]
              rw [ek] at HPOP
              have HRANK : Hid (∃ h : rk < ns.length, ns[rk] = ky u.name) := by
                unfold Hid
                rw [hrk]
                exact rank_at HNS.out.1 HUL.out
              clear hkey hr hrk ek hu hx tx hmin hpop hg hps hpj
              go_wp2_with fail
              refine HPOP.out.mono ?_
              rintro e w3 ⟨rfl, s2, least2, hH3, hG3, hsk3, ht3⟩
              have hb3 : Below H wr w3 := ht3.below HI.out.2.2.1.le (fun k hk => HI.out.2.2.1.foot k hk)
              have hp3 := (PopS.next HI.out.2.2.2.2.1 HTX.out HMIN.out hsk3).2
              have e3 : (j : Int) - (ps.length : Int) - 1 = (j : Int) - ((ps ++ [x]).length : Nat) := by simp; omega
              rw [e3] at hH3 hG3
              have hLd3 : Ld w bw B3 W w3 := by
                obtain ⟨⟨l1, l2⟩, h2, h3, h4⟩ := HI.out.1
                exact ⟨⟨l1, l2⟩, h2.trans (hb3.mono (Nat.le_trans HBH.out.1 HHB.out.1)), below_at hb3 (Nat.lt_of_lt_of_le HBH.out.2 HHB.out.1) h3, Nat.le_trans h4 hb3.size⟩
              have HI3 : Hid (Ld w bw B3 W w3 ∧ w3.ownsRow B1 9 1 (.slice A0 j cap0) j (rowK ns) ∧ HeapV H w3 H v s2 least2 ((j : Int) - ((ps ++ [x]).length : Nat)) ∧ Good s2 least2 ((j : Int) - ((ps ++ [x]).length : Nat)) ∧ PopS W l ns s2 (ps ++ [x]) ∧ w3.ownsRow B3 9 1 (.slice A7 ps.length cap7) ps.length (rowK (namesO l ps))) :=
                ⟨hLd3, row_kept HI.out.2.1 (fun g hg => hb3.block g (HHB.out.2 g hg)), hH3, hG3, hp3, row_kept HI.out.2.2.2.2.2 (fun g hg => ht3.kept g (HI.out.2.2.2.2.2.lt g hg).2 (fun q => by have h1 := (HI.out.2.2.2.2.2.lt g hg).1; have h2 := HB3.out.2.1 g q; omega))⟩
              clear hH3 hG3 hsk3 ht3 hb3 hp3 e3 hLd3 HI HPOP HTX HMIN HLE
              go_upto_region 24 with (fail)
              refine wp_name ?_
              intro w4 hw4
              have b4 : Below w3.heap.size w3 w4 := by rw [hw4]; exact (by repeat (first | with_reducible assumption | with_reducible exact Below.refl _ _ | with_reducible refine Below.drew ?_ | with_reducible refine below_drewN ?_ _ | with_reducible refine below_alloc ?_ _ | with_reducible refine Below.alloc ?_ (by first | omega | (simp; done) | (simp; omega)) _ | with_reducible refine Below.setCell ?_ (by first | omega | (simp; done) | (simp; omega)) _ | with_reducible refine below_setRow ?_ (by first | omega | (simp; done) | (simp; omega)) _))
              have X4 : w4.heap[w3.heap.size]? = some (.cells #[.int .u64 p, .int .u64 q, .int .i64 (rk : Int)] 60 (0, 0)) := by rw [hw4]; exact at_of (by apply Exists.intro; refine ⟨?_, ?_⟩; (focus ((repeat (first | (with_reducible assumption) | (with_reducible exact alloc_at _ _) | ((with_reducible apply alloc_at'); (simp; done)) | (with_reducible apply alloc_at_lt) | (with_reducible apply heap_drew_at) | (with_reducible apply heap_drewN_at) | (with_reducible apply heap_setCell_same) | ((with_reducible apply heap_set_ne); (first | omega | (dsimp only; omega) | (simp; done) | (simp; omega))) | (with_reducible apply setRow_at) | ((with_reducible apply setRow_ne); (first | omega | (dsimp only; omega) | (simp; done) | (simp; omega))))))); simp)
              have HI4 : Hid (Ld w bw B3 W w4 ∧ w4.ownsRow B1 9 1 (.slice A0 j cap0) j (rowK ns) ∧ HeapV H w4 H v s2 least2 ((j : Int) - ((ps ++ [x]).length : Nat)) ∧ Good s2 least2 ((j : Int) - ((ps ++ [x]).length : Nat)) ∧ PopS W l ns s2 (ps ++ [x]) ∧ w4.ownsRow B3 9 1 (.slice A7 ps.length cap7) ps.length (rowK (namesO l ps))) :=
                ⟨HI3.out.1.below b4, row_at HI3.out.2.1 b4, HI3.out.2.2.1.below b4, HI3.out.2.2.2.1, HI3.out.2.2.2.2.1, row_at HI3.out.2.2.2.2.2 b4⟩
              obtain ⟨bk, hbk⟩ : ∃ x, x = w3.heap.size := ⟨_, rfl⟩
              rw [← hbk] at X4 ⊢
              have k1 := (blk_cell X4 1).trans rfl
              have k2 := (blk_cell X4 2).trans rfl
              have hl4 := lt_of_at X4
              obtain ⟨g9, c9, e9, -, hg9, hc9⟩ := rowK_cells HI4.out.2.1 (by have := HRANK.out; obtain ⟨h, -⟩ := this; have := HNS.out.2.2; omega)
              injection e9 with e91 e92 e93
              subst e91 e93
              obtain ⟨hr1, hr2⟩ := HRANK.out
              have n1 := hc9 rk hr1
              have en : (⟨ns[rk].toArray⟩ : ByteArray) = u.name := ky_inj (by show ns[rk] = _; exact hr2)
              rw [en] at n1
              have hrj : (rk : Int) < (j : Int) := by have := HNS.out.2.2; omega
              have HOWN := HI4.out.2.2.2.2.2
              obtain ⟨A8, cap8, w5, happ, hown, hb5, ht5⟩ := app_rowK HOWN (by have := HPB.out; omega) HI4.out.1.sz u.name
              have HAPP := hid happ
              have en2 : namesO l (ps ++ [x]) = namesO l ps ++ [ky u.name] := by
                unfold namesO
                rw [List.map_append, List.map_singleton, List.getD_eq_getElem?_getD, HU.out]; rfl
              have HI5 : Hid (Ld w bw B3 W w5 ∧ w5.ownsRow B1 9 1 (.slice (some ⟨g9, 0, none⟩) j cap0) j (rowK ns) ∧ HeapV H w5 H v s2 least2 ((j : Int) - ((ps ++ [x]).length : Nat)) ∧ Good s2 least2 ((j : Int) - ((ps ++ [x]).length : Nat)) ∧ PopS W l ns s2 (ps ++ [x]) ∧ w5.ownsRow B3 9 1 (.slice A8 (ps.length + 1) cap8) (ps ++ [x]).length (rowK (namesO l (ps ++ [x])))) :=
                ⟨HI4.out.1.next hb5, row_kept HI4.out.2.1 (fun g hg => hb5.block g (HB3.out.2.2 g hg)), HI4.out.2.2.1.at (fun k hk => hb5.block k (HB3.out.2.1 k hk)), HI4.out.2.2.2.1, HI4.out.2.2.2.2.1, by rw [en2, List.length_append]; exact hown⟩
              clear hw4 b4 X4 HI3 HI4 hbk hc9 hr1 hr2 en HOWN happ hown hb5 ht5 en2
              go_wp2_with (first | (at_builtin; refine wpList_append_eq rfl _ _ _ rfl rfl rfl HAPP.out ?_))
              go_roundg (j - ps.length)
              case rel => exact ⟨s2, least2, ps ++ [x], _, by have := HG1.out; simp; omega, rfl, HI5⟩
              case measure => have := HG1.out; have := HGK.out; omega
            · have hpp : ¬ (0 : Int) < (j : Int) - (ps.length : Int) := by omega
              obtain ⟨hsr, hnm⟩ := HI.out.2.2.2.2.1.whole (by have := HL.out; omega) HND.out HNS.out.1 HNS.out.2.1
              have hlp : ps.length = l.length := by have := HL.out; omega
              have hrow := HI.out.2.2.2.2.2
              rw [← hnm, hlp] at hrow
              have FIN : Hid ((∃ s, SrtO W l s ∧ wr.ownsRow B3 9 1 (.slice A7 ps.length cap7) l.length (rowK (nmK s))) ∧ Below w.heap.size w wr ∧ w.heap.size ≤ B3) := by
                rw [hlp]
                exact ⟨⟨_, hsr, hrow⟩, HI.out.1.bel, HI.out.1.lo.2⟩
              clear hsr hnm hlp hrow HI hps hg hpj HLE
              go_wp2
              go_ret2
              obtain ⟨⟨s3, f1, f2⟩, f3, f4⟩ := FIN.out
              exact ⟨.inr ⟨HE0.out, _, s3, f1, rfl, row_base f2 f4⟩, f3⟩
end Go.Proofs.Yteccpjijlkjneaa
