/- Chapter 19's step: the table and the reference, side by side. -/
import Derived.Test.YtkplhobiciddoaaRnE
import Derived.Test.YtkplhobiciddoaaRnF
import Derived.Test.YtkplhobiciddoaaRnG
import Derived.Deep.RegionHeld3
namespace Go.Proofs.Ytkplhobiciddoaa
open Go.RowKit Go.Maps
theorem RefN.keptX {B R : Nat} {w w' : World} {v : Value} {l : List Nd} (h : RefN B w R v l) (hk : KeptX w w') : RefN B w' R v l := by
  obtain ⟨h0, h1, h2⟩ := h
  refine ⟨h0, hk _ _ _ _ h1 (by decide) (by decide), ownsRow_at h2 (fun g hg => ?_)⟩
  obtain ⟨-, ⟨rfl, -⟩ | ⟨g', cap, cur, rfl, -, hh, -⟩⟩ := h2
  · cases hg
  · injection hg with hg
    simp only at hg
    subst hg
    rw [hh]
    exact hk _ _ _ _ hh (by decide) (by decide)
theorem TabB.keptR {B T : Nat} {w w' : World} {L : List Nd} (h : TabB B w T L) (hk : KeptR w w') (hs : w.heap.size ≤ w'.heap.size) : TabB B w' T L := by
  obtain ⟨nm, v, m, h⟩ := h
  obtain ⟨l, hc, hL⟩ := h.clk
  refine ⟨nm, v, m, ⟨l, hc.at hs (fun k hf => ?_), hL⟩, h.nle, h.nap, h.map.at (fun b e => ?_), h.ris, h.len, h.sz, h.tm⟩
  · obtain ⟨I, h1, -⟩ := hc.st
    rcases hf with rfl | hf | hf
    · rw [h1.blk]
      exact hk _ _ h1.blk ⟨by decide, by decide⟩
    · obtain ⟨-, ⟨rfl, -⟩ | ⟨g, cap, cur, rfl, -, hh, -⟩⟩ := h1.row
      · cases hf
      · injection hf with hf
        simp only at hf
        subst hf
        rw [hh]
        exact hk _ _ hh ⟨by decide, by decide⟩
    · subst hf
      obtain ⟨es, cl, hm⟩ := OwnsM.isMap (show OwnsM w Try.prog 9 mkI k l.length I from h1.map)
      rw [hm]
      exact hk _ _ hm trivial
  · subst e
    obtain ⟨es, cl, hm⟩ := OwnsM.isMap (show OwnsM w Try.prog 9 ndV b L.length (fnd L) from h.map)
    rw [hm]
    exact hk _ _ hm trivial
/-- The table and the reference. -/
structure PairW (B : Nat) (w : World) (T R : Nat) (L M : List Nd) : Prop where
  tab : TabB B w T L
  ref : ∃ v, RefN B w R v M
theorem PairW.below {B T R : Nat} {w w' : World} {L M : List Nd} (h : PairW B w T R L M) (hb : Below w.heap.size w w') : PairW B w' T R L M := ⟨h.tab.below hb, by obtain ⟨v, hv⟩ := h.ref; exact ⟨v, hv.below hb⟩⟩
theorem PairW.le {B T R : Nat} {w : World} {L M : List Nd} (h : PairW B w T R L M) : B ≤ w.heap.size := by
  obtain ⟨nm, v, m, h⟩ := h.tab
  exact Nat.le_trans h.le (Nat.le_of_lt h.lt)
theorem PairW.len {B T R : Nat} {w : World} {L M : List Nd} (h : PairW B w T R L M) : L.length ≤ 12 := by obtain ⟨_, _, _, h⟩ := h.tab; exact h.len
theorem PairW.ris {B T R : Nat} {w : World} {L M : List Nd} (h : PairW B w T R L M) : Rising L := by obtain ⟨_, _, _, h⟩ := h.tab; exact h.ris
theorem PairW.tm {B T R : Nat} {w : World} {L M : List Nd} (h : PairW B w T R L M) : ∀ x ∈ L, 0 ≤ x.seen ∧ x.seen ≤ 1099511627776 := by obtain ⟨_, _, _, h⟩ := h.tab; exact h.tm
def StepW (B : Nat) (w w' : World) (T R : Nat) : Prop := ∃ L', PairW B w' T R L' L' ∧ Below B w w'
/-- The pair and the call's own block. -/
def HalfW (B : Nat) (w : World) (T R : Nat) (L M : List Nd) (n : Nat) (cs : Array Value) : Prop := PairW B w T R L M ∧ w.heap[n]? = some (.cells cs 41 (0, 0))
theorem HalfW.below {B T R n : Nat} {w w' : World} {L M : List Nd} {cs : Array Value} (h : HalfW B w T R L M n cs) (hb : Below w.heap.size w w') : HalfW B w' T R L M n cs := ⟨h.1.below hb, below_at hb (lt_of_at h.2) h.2⟩
theorem HalfW.cells {B T R n : Nat} {w : World} {L M : List Nd} {k ep nu a b c d : Int} {s : ByteArray} (h : HalfW B w T R L M n #[.int .i64 k, .string s, .int .i64 ep, .int .i64 nu, .int .i64 a, .int .i64 b, .int .i64 c, .int .i64 d]) :
    w.cell? ⟨n, 1, none⟩ = some (.string s) ∧ w.cell? ⟨n, 2, none⟩ = some (.int .i64 ep) ∧ w.cell? ⟨n, 3, none⟩ = some (.int .i64 nu) := ⟨(blk_cell h.2 1).trans rfl, (blk_cell h.2 2).trans rfl, (blk_cell h.2 3).trans rfl⟩
theorem HalfW.prog {B T R n : Nat} {w w' : World} {L M L' : List Nd} {cs : Array Value} (h : HalfW B w T R L M n cs) (hT : TabB B w' T L') (hk : KeptX w w') : HalfW B w' T R L' M n cs :=
  ⟨⟨hT, by obtain ⟨v, hv⟩ := h.1.ref; exact ⟨v, hv.keptX hk⟩⟩, hk _ _ _ _ h.2 (by decide) (by decide)⟩
theorem HalfW.refs {B T R n : Nat} {w w' : World} {L M M' : List Nd} {cs : Array Value} (h : HalfW B w T R L M n cs) (hR : RnPost B w w' R M') : HalfW B w' T R L M' n cs ∧ Below B w w' :=
  ⟨⟨⟨h.1.tab.keptR hR.2.2 hR.2.1.size, hR.1⟩, hR.2.2 _ _ h.2 ⟨by decide, by decide⟩⟩, hR.2.1⟩
set_option maxRecDepth 20000 in
set_option maxHeartbeats 4000000 in
theorem stepW1 (B T R : Nat) (L : List Nd) (s : ByteArray) (ep nu a b c d : Int) (w : World) (h : PairW B w T R L L) (hs : s.size ≤ 281474976710656) :
    Calls Try.prog 17 #[.pointer (some ⟨T, 0, none⟩), .pointer (some ⟨R, 0, none⟩), .agg #[.int .i64 1, .string s, .int .i64 ep, .int .i64 nu, .int .i64 a, .int .i64 b, .int .i64 c, .int .i64 d]] w fun e w' => e = .returned (.bool true) ∧ StepW B w w' T R := by
  have HH := hid h
  have HS := hid hs
  clear h hs
  go_enter Try.func17, Try.ntmps17
  go_upto_region 3 with fail
  refine wp_name ?_
  intro w1 hw1
  have B1 : Below w.heap.size w w1 := by rw [hw1]; exact (by repeat (first | with_reducible assumption | with_reducible exact Below.refl _ _ | with_reducible refine Below.drew ?_ | with_reducible refine below_drewN ?_ _ | with_reducible refine below_alloc ?_ _ | with_reducible refine Below.alloc ?_ (by first | omega | (simp; done) | (simp; omega)) _ | with_reducible refine Below.setCell ?_ (by first | omega | (simp; done) | (simp; omega)) _ | with_reducible refine below_setRow ?_ (by first | omega | (simp; done) | (simp; omega)) _))
  have X1 : w1.heap[w.heap.size]? = some (.cells #[.int .i64 1, .string s, .int .i64 ep, .int .i64 nu, .int .i64 a, .int .i64 b, .int .i64 c, .int .i64 d] 41 (0, 0)) := by rw [hw1]; exact at_of (by apply Exists.intro; refine ⟨?_, ?_⟩; (focus ((repeat (first | (with_reducible assumption) | (with_reducible exact alloc_at _ _) | ((with_reducible apply alloc_at'); (simp; done)) | (with_reducible apply alloc_at_lt) | (with_reducible apply heap_drew_at) | (with_reducible apply heap_drewN_at) | (with_reducible apply heap_setCell_same) | ((with_reducible apply heap_set_ne); (first | omega | (dsimp only; omega) | (simp; done) | (simp; omega))) | (with_reducible apply setRow_at) | ((with_reducible apply setRow_ne); (first | omega | (dsimp only; omega) | (simp; done) | (simp; omega))))))); simp)
  have H1 : HalfW B w1 T R L L w.heap.size #[.int .i64 1, .string s, .int .i64 ep, .int .i64 nu, .int .i64 a, .int .i64 b, .int .i64 c, .int .i64 d] := ⟨HH.out.below B1, X1⟩
  have HB1 := hid (B1.mono HH.out.le)
  have HL1 := hid B1
  clear hw1
  clear B1
  have x1 : w1.cell? ⟨w.heap.size, 1, none⟩ = some (.string s) := (blk_cell X1 1).trans rfl
  have x2 : w1.cell? ⟨w.heap.size, 2, none⟩ = some (.int .i64 ep) := (blk_cell X1 2).trans rfl
  have x3 : w1.cell? ⟨w.heap.size, 3, none⟩ = some (.int .i64 nu) := (blk_cell X1 3).trans rfl
  have x4 : w1.cell? ⟨w.heap.size, 4, none⟩ = some (.int .i64 a) := (blk_cell X1 4).trans rfl
  have x5 : w1.cell? ⟨w.heap.size, 5, none⟩ = some (.int .i64 b) := (blk_cell X1 5).trans rfl
  have x6 : w1.cell? ⟨w.heap.size, 6, none⟩ = some (.int .i64 c) := (blk_cell X1 6).trans rfl
  have x7 : w1.cell? ⟨w.heap.size, 7, none⟩ = some (.int .i64 d) := (blk_cell X1 7).trans rfl
  have xl := lt_of_at X1
  have xf := blk_free X1
  have HX1 := hid H1
  clear H1 X1
  go_wp2_with fail
  refine (register_any B T L s ep a b c d nu w1 HX1.out.1.tab (Nat.le_trans HS.out (by decide))).mono ?_
  rintro e w2 ⟨rfl, hT2, hB2, hK2⟩
  have H2 := HX1.out.prog hT2 hK2
  have HB2 := hid hB2
  have X2 := H2.2
  have HX2 := hid H2
  clear H2 hT2 hB2 hK2 x1 x2 x3 x4 x5 x6 x7 xl xf
  have y1 : w2.cell? ⟨w.heap.size, 1, none⟩ = some (.string s) := (blk_cell X2 1).trans rfl
  have y2 : w2.cell? ⟨w.heap.size, 2, none⟩ = some (.int .i64 ep) := (blk_cell X2 2).trans rfl
  have y3 : w2.cell? ⟨w.heap.size, 3, none⟩ = some (.int .i64 nu) := (blk_cell X2 3).trans rfl
  have y4 : w2.cell? ⟨w.heap.size, 4, none⟩ = some (.int .i64 a) := (blk_cell X2 4).trans rfl
  have y5 : w2.cell? ⟨w.heap.size, 5, none⟩ = some (.int .i64 b) := (blk_cell X2 5).trans rfl
  have y6 : w2.cell? ⟨w.heap.size, 6, none⟩ = some (.int .i64 c) := (blk_cell X2 6).trans rfl
  have y7 : w2.cell? ⟨w.heap.size, 7, none⟩ = some (.int .i64 d) := (blk_cell X2 7).trans rfl
  have yl := lt_of_at X2
  have yf := blk_free X2
  clear X2
  have HR : Hid (Calls Try.prog 33 #[.pointer (some ⟨R, 0, none⟩), .string s, .int .i64 ep, .agg #[.int .i64 a, .int .i64 b, .int .i64 c, .int .i64 d], .int .i64 nu] w2 fun e w' => e = .returned (.tuple #[.bool (regR L s ep (a, b, c, d) nu).1, .int .i64 (regR L s ep (a, b, c, d) nu).2.1]) ∧ RnPost B w2 w' R (regR L s ep (a, b, c, d) nu).2.2) := by
    obtain ⟨v, hv⟩ := HX2.out.1.ref
    exact rreg_any B R v L s ep a b c d nu w2 HX2.out.1.le hv HH.out.len HS.out HH.out.ris
  generalize regR L s ep (a, b, c, d) nu = r at HR HX2
  obtain ⟨wa, er, L'⟩ := r
  go_wp2_with fail
  refine HR.out.mono ?_
  rintro e w3 ⟨rfl, hP3⟩
  obtain ⟨H3, hB3⟩ := HX2.out.refs hP3
  have HF : Hid (StepW B w w3 T R) := ⟨_, H3.1, (HB1.out.trans HB2.out).trans hB3⟩
  clear H3 hB3 hP3 y1 y2 y3 y4 y5 y6 y7 yl yf HR
  cases wa
  all_goals
    go_wp2
    go_ret
    exact ⟨by simp, HF.out⟩
set_option maxRecDepth 20000 in
set_option maxHeartbeats 4000000 in
theorem stepW2 (B T R : Nat) (L : List Nd) (s : ByteArray) (ep nu a b c d : Int) (w : World) (h : PairW B w T R L L) (hs : s.size ≤ 281474976710656) :
    Calls Try.prog 17 #[.pointer (some ⟨T, 0, none⟩), .pointer (some ⟨R, 0, none⟩), .agg #[.int .i64 2, .string s, .int .i64 ep, .int .i64 nu, .int .i64 a, .int .i64 b, .int .i64 c, .int .i64 d]] w fun e w' => e = .returned (.bool true) ∧ StepW B w w' T R := by
  have HH := hid h
  have HS := hid hs
  have HP : Hid (∀ W, HalfW B W T R L L w.heap.size #[.int .i64 2, .string s, .int .i64 ep, .int .i64 nu, .int .i64 a, .int .i64 b, .int .i64 c, .int .i64 d] → Calls Try.prog 13 #[.pointer (some ⟨T, 0, none⟩), .string s, .int .i64 ep, .int .i64 nu] W fun e w' => e = .returned (.int .i64 (beatR L s ep nu).1) ∧ HalfW B w' T R (beatR L s ep nu).2 L w.heap.size #[.int .i64 2, .string s, .int .i64 ep, .int .i64 nu, .int .i64 a, .int .i64 b, .int .i64 c, .int .i64 d] ∧ Below B W w') := fun W hW =>
    (beat_any B T L s ep nu W hW.1.tab (Nat.le_trans hs (by decide))).mono fun e w' q => ⟨q.1, hW.prog q.2.1 q.2.2.2, q.2.2.1⟩
  have HR : Hid (∀ W L', HalfW B W T R L' L w.heap.size #[.int .i64 2, .string s, .int .i64 ep, .int .i64 nu, .int .i64 a, .int .i64 b, .int .i64 c, .int .i64 d] → Calls Try.prog 34 #[.pointer (some ⟨R, 0, none⟩), .string s, .int .i64 ep, .int .i64 nu] W fun e w' => e = .returned (.int .i64 (beatR L s ep nu).1) ∧ HalfW B w' T R L' (beatR L s ep nu).2 w.heap.size #[.int .i64 2, .string s, .int .i64 ep, .int .i64 nu, .int .i64 a, .int .i64 b, .int .i64 c, .int .i64 d] ∧ Below B W w') := fun W L' hW => by
    obtain ⟨v, hv⟩ := hW.1.ref
    exact (rbeat_any B R v L s ep nu W hW.1.le hv h.len h.ris).mono fun e w' q => ⟨q.1, (hW.refs q.2).1, (hW.refs q.2).2⟩
  clear h hs
  generalize beatR L s ep nu = r at HP HR
  obtain ⟨er, L'⟩ := r
  go_enter Try.func17, Try.ntmps17
  go_upto_region 7 with fail
  refine wp_name ?_
  intro w1 hw1
  have B1 : Below w.heap.size w w1 := by rw [hw1]; exact (by repeat (first | with_reducible assumption | with_reducible exact Below.refl _ _ | with_reducible refine Below.drew ?_ | with_reducible refine below_drewN ?_ _ | with_reducible refine below_alloc ?_ _ | with_reducible refine Below.alloc ?_ (by first | omega | (simp; done) | (simp; omega)) _ | with_reducible refine Below.setCell ?_ (by first | omega | (simp; done) | (simp; omega)) _ | with_reducible refine below_setRow ?_ (by first | omega | (simp; done) | (simp; omega)) _))
  have X1 : w1.heap[w.heap.size]? = some (.cells #[.int .i64 2, .string s, .int .i64 ep, .int .i64 nu, .int .i64 a, .int .i64 b, .int .i64 c, .int .i64 d] 41 (0, 0)) := by rw [hw1]; exact at_of (by apply Exists.intro; refine ⟨?_, ?_⟩; (focus ((repeat (first | (with_reducible assumption) | (with_reducible exact alloc_at _ _) | ((with_reducible apply alloc_at'); (simp; done)) | (with_reducible apply alloc_at_lt) | (with_reducible apply heap_drew_at) | (with_reducible apply heap_drewN_at) | (with_reducible apply heap_setCell_same) | ((with_reducible apply heap_set_ne); (first | omega | (dsimp only; omega) | (simp; done) | (simp; omega))) | (with_reducible apply setRow_at) | ((with_reducible apply setRow_ne); (first | omega | (dsimp only; omega) | (simp; done) | (simp; omega))))))); simp)
  have H1 : HalfW B w1 T R L L w.heap.size #[.int .i64 2, .string s, .int .i64 ep, .int .i64 nu, .int .i64 a, .int .i64 b, .int .i64 c, .int .i64 d] := ⟨HH.out.below B1, X1⟩
  have HB1 := hid (B1.mono HH.out.le)
  have HL1 := hid B1
  clear hw1
  clear X1 B1
  have hb1p := HB1.out
  go_region_held3 (fun w' => w'.cell? ⟨w.heap.size, 1, none⟩ = some (.string s) ∧ w'.cell? ⟨w.heap.size, 2, none⟩ = some (.int .i64 ep) ∧ w'.cell? ⟨w.heap.size, 3, none⟩ = some (.int .i64 nu)) (((try go_split_ands); (try dsimp only); (first | refine (HalfW.cells (HalfW.below H92 ?_)) | refine (HalfW.cells (HalfW.below H91 ?_)) | refine (HalfW.cells (HalfW.below H1 ?_))); (focus ((repeat (first | with_reducible assumption | with_reducible exact Below.refl _ _ | with_reducible refine Below.drew ?_ | with_reducible refine below_drewN ?_ _ | with_reducible refine below_alloc ?_ _ | with_reducible refine Below.alloc ?_ (by first | omega | (simp; done) | (simp; omega)) _ | with_reducible refine Below.setCell ?_ (by first | omega | (simp; done) | (simp; omega)) _ | with_reducible refine below_setRow ?_ (by first | omega | (simp; done) | (simp; omega)) _)))))) (first | (go_at_call 13; refine (HP.out _ (H1.below (by repeat (first | with_reducible assumption | with_reducible exact Below.refl _ _ | with_reducible refine Below.drew ?_ | with_reducible refine below_drewN ?_ _ | with_reducible refine below_alloc ?_ _ | with_reducible refine Below.alloc ?_ (by first | omega | (simp; done) | (simp; omega)) _ | with_reducible refine Below.setCell ?_ (by first | omega | (simp; done) | (simp; omega)) _ | with_reducible refine below_setRow ?_ (by first | omega | (simp; done) | (simp; omega)) _)))).mono ?_; rintro e w91 ⟨rfl, H91, B91⟩; have BB91 : Below B w w91 := Below.trans (by repeat (first | with_reducible assumption | with_reducible exact Below.refl _ _ | with_reducible refine Below.drew ?_ | with_reducible refine below_drewN ?_ _ | with_reducible refine below_alloc ?_ _ | with_reducible refine Below.alloc ?_ (by first | omega | (simp; done) | (simp; omega)) _ | with_reducible refine Below.setCell ?_ (by first | omega | (simp; done) | (simp; omega)) _ | with_reducible refine below_setRow ?_ (by first | omega | (simp; done) | (simp; omega)) _)) B91) | (go_at_call 34; refine (HR.out _ _ (H91.below (by repeat (first | with_reducible assumption | with_reducible exact Below.refl _ _ | with_reducible refine Below.drew ?_ | with_reducible refine below_drewN ?_ _ | with_reducible refine below_alloc ?_ _ | with_reducible refine Below.alloc ?_ (by first | omega | (simp; done) | (simp; omega)) _ | with_reducible refine Below.setCell ?_ (by first | omega | (simp; done) | (simp; omega)) _ | with_reducible refine below_setRow ?_ (by first | omega | (simp; done) | (simp; omega)) _)))).mono ?_; rintro e w92 ⟨rfl, H92, B92⟩; have BB92 : Below B w w92 := Below.trans (by repeat (first | with_reducible assumption | with_reducible exact Below.refl _ _ | with_reducible refine Below.drew ?_ | with_reducible refine below_drewN ?_ _ | with_reducible refine below_alloc ?_ _ | with_reducible refine Below.alloc ?_ (by first | omega | (simp; done) | (simp; omega)) _ | with_reducible refine Below.setCell ?_ (by first | omega | (simp; done) | (simp; omega)) _ | with_reducible refine below_setRow ?_ (by first | omega | (simp; done) | (simp; omega)) _)) B92))
  all_goals
    have HF : Hid (StepW B w w92 T R) := ⟨_, H92.1, BB92⟩
    clear H1 H91 H92 BB91 BB92 B91 B92 HB1 hb1p
    go_wp2
    go_ret
    exact ⟨by simp, HF.out⟩
set_option maxRecDepth 20000 in
set_option maxHeartbeats 4000000 in
theorem stepW3 (B T R : Nat) (L : List Nd) (s : ByteArray) (ep nu a b c d : Int) (w : World) (h : PairW B w T R L L) (_hs : s.size ≤ 281474976710656) :
    Calls Try.prog 17 #[.pointer (some ⟨T, 0, none⟩), .pointer (some ⟨R, 0, none⟩), .agg #[.int .i64 3, .string s, .int .i64 ep, .int .i64 nu, .int .i64 a, .int .i64 b, .int .i64 c, .int .i64 d]] w fun e w' => e = .returned (.bool true) ∧ StepW B w w' T R := by
  have HH := hid h
  have HP : Hid (∀ W, HalfW B W T R L L w.heap.size #[.int .i64 3, .string s, .int .i64 ep, .int .i64 nu, .int .i64 a, .int .i64 b, .int .i64 c, .int .i64 d] → Calls Try.prog 14 #[.pointer (some ⟨T, 0, none⟩), .int .i64 nu] W fun e w' => ∃ vo, e = .returned vo ∧ HalfW B w' T R (expL L nu) L w.heap.size #[.int .i64 3, .string s, .int .i64 ep, .int .i64 nu, .int .i64 a, .int .i64 b, .int .i64 c, .int .i64 d] ∧ w'.ownsRow B 9 1 vo (expO L nu).length ((expO L nu).map (fun x => Value.string x.name)) ∧ Below B W w') := fun W hW =>
    (expire_any B T L nu W hW.1.tab).mono fun e w' ⟨vo, q1, q2, q3, q4, q5⟩ => ⟨vo, q1, hW.prog q3 q5, ownsRow_base q2 hW.1.le, q4⟩
  have HR : Hid (∀ W vo, HalfW B W T R (expL L nu) L w.heap.size #[.int .i64 3, .string s, .int .i64 ep, .int .i64 nu, .int .i64 a, .int .i64 b, .int .i64 c, .int .i64 d] → W.ownsRow B 9 1 vo (expO L nu).length ((expO L nu).map (fun x => Value.string x.name)) → Calls Try.prog 36 #[.pointer (some ⟨R, 0, none⟩), .int .i64 nu] W fun e w' => ∃ vx, e = .returned vx ∧ HalfW B w' T R (expL L nu) (expL L nu) w.heap.size #[.int .i64 3, .string s, .int .i64 ep, .int .i64 nu, .int .i64 a, .int .i64 b, .int .i64 c, .int .i64 d] ∧ w'.ownsRow B 9 1 vo (expO L nu).length ((expO L nu).map (fun x => Value.string x.name)) ∧ w'.ownsRow B 9 1 vx (expO L nu).length ((expO L nu).map (fun x => Value.string x.name)) ∧ Below B W w') := fun W vo hW hO => by
    obtain ⟨v, hv⟩ := hW.1.ref
    exact (rexp_any B R v L nu W hW.1.le hv h.len h.tm).mono fun e w' ⟨vx, q1, q2, q3⟩ => ⟨vx, q1, (hW.refs q3).1, rowS_keptR hO q3.2.2, ownsRow_base q2 hW.1.le, q3.2.1⟩
  have HLE : Hid ((expO L nu).length ≤ 12) := by unfold Hid expO; exact Nat.le_trans (List.length_filter_le _ _) h.len
  clear h _hs
  go_enter Try.func17, Try.ntmps17
  go_upto_region 9 with fail
  refine wp_name ?_
  intro w1 hw1
  have B1 : Below w.heap.size w w1 := by rw [hw1]; exact (by repeat (first | with_reducible assumption | with_reducible exact Below.refl _ _ | with_reducible refine Below.drew ?_ | with_reducible refine below_drewN ?_ _ | with_reducible refine below_alloc ?_ _ | with_reducible refine Below.alloc ?_ (by first | omega | (simp; done) | (simp; omega)) _ | with_reducible refine Below.setCell ?_ (by first | omega | (simp; done) | (simp; omega)) _ | with_reducible refine below_setRow ?_ (by first | omega | (simp; done) | (simp; omega)) _))
  have X1 : w1.heap[w.heap.size]? = some (.cells #[.int .i64 3, .string s, .int .i64 ep, .int .i64 nu, .int .i64 a, .int .i64 b, .int .i64 c, .int .i64 d] 41 (0, 0)) := by rw [hw1]; exact at_of (by apply Exists.intro; refine ⟨?_, ?_⟩; (focus ((repeat (first | (with_reducible assumption) | (with_reducible exact alloc_at _ _) | ((with_reducible apply alloc_at'); (simp; done)) | (with_reducible apply alloc_at_lt) | (with_reducible apply heap_drew_at) | (with_reducible apply heap_drewN_at) | (with_reducible apply heap_setCell_same) | ((with_reducible apply heap_set_ne); (first | omega | (dsimp only; omega) | (simp; done) | (simp; omega))) | (with_reducible apply setRow_at) | ((with_reducible apply setRow_ne); (first | omega | (dsimp only; omega) | (simp; done) | (simp; omega))))))); simp)
  have H1 : HalfW B w1 T R L L w.heap.size #[.int .i64 3, .string s, .int .i64 ep, .int .i64 nu, .int .i64 a, .int .i64 b, .int .i64 c, .int .i64 d] := ⟨HH.out.below B1, X1⟩
  have HB1 := hid (B1.mono HH.out.le)
  have HL1 := hid B1
  clear hw1
  clear X1 B1
  have hb1p := HB1.out
  go_region_held3 (fun w' => w'.cell? ⟨w.heap.size, 3, none⟩ = some (.int .i64 nu)) (((try go_split_ands); (try dsimp only); (first | refine (HalfW.cells (HalfW.below H93 ?_)).2.2 | refine (HalfW.cells (HalfW.below H92 ?_)).2.2 | refine (HalfW.cells (HalfW.below H91 ?_)).2.2 | refine (HalfW.cells (HalfW.below H1 ?_)).2.2); (focus ((repeat (first | with_reducible assumption | with_reducible exact Below.refl _ _ | with_reducible refine Below.drew ?_ | with_reducible refine below_drewN ?_ _ | with_reducible refine below_alloc ?_ _ | with_reducible refine Below.alloc ?_ (by first | omega | (simp; done) | (simp; omega)) _ | with_reducible refine Below.setCell ?_ (by first | omega | (simp; done) | (simp; omega)) _ | with_reducible refine below_setRow ?_ (by first | omega | (simp; done) | (simp; omega)) _)))))) (first | (go_at_call 14; refine (HP.out _ (H1.below (by repeat (first | with_reducible assumption | with_reducible exact Below.refl _ _ | with_reducible refine Below.drew ?_ | with_reducible refine below_drewN ?_ _ | with_reducible refine below_alloc ?_ _ | with_reducible refine Below.alloc ?_ (by first | omega | (simp; done) | (simp; omega)) _ | with_reducible refine Below.setCell ?_ (by first | omega | (simp; done) | (simp; omega)) _ | with_reducible refine below_setRow ?_ (by first | omega | (simp; done) | (simp; omega)) _)))).mono ?_; rintro e w91 ⟨vo, rfl, H91, R91, B91⟩; have BB91 : Below B w w91 := Below.trans (by repeat (first | with_reducible assumption | with_reducible exact Below.refl _ _ | with_reducible refine Below.drew ?_ | with_reducible refine below_drewN ?_ _ | with_reducible refine below_alloc ?_ _ | with_reducible refine Below.alloc ?_ (by first | omega | (simp; done) | (simp; omega)) _ | with_reducible refine Below.setCell ?_ (by first | omega | (simp; done) | (simp; omega)) _ | with_reducible refine below_setRow ?_ (by first | omega | (simp; done) | (simp; omega)) _)) B91) | (go_at_call 36; refine (HR.out _ _ (H91.below (by repeat (first | with_reducible assumption | with_reducible exact Below.refl _ _ | with_reducible refine Below.drew ?_ | with_reducible refine below_drewN ?_ _ | with_reducible refine below_alloc ?_ _ | with_reducible refine Below.alloc ?_ (by first | omega | (simp; done) | (simp; omega)) _ | with_reducible refine Below.setCell ?_ (by first | omega | (simp; done) | (simp; omega)) _ | with_reducible refine below_setRow ?_ (by first | omega | (simp; done) | (simp; omega)) _))) (ownsRow_at R91 (fun g hg => Below.block (B := w91.heap.size) (w := w91) (by repeat (first | with_reducible assumption | with_reducible exact Below.refl _ _ | with_reducible refine Below.drew ?_ | with_reducible refine below_drewN ?_ _ | with_reducible refine below_alloc ?_ _ | with_reducible refine Below.alloc ?_ (by first | omega | (simp; done) | (simp; omega)) _ | with_reducible refine Below.setCell ?_ (by first | omega | (simp; done) | (simp; omega)) _ | with_reducible refine below_setRow ?_ (by first | omega | (simp; done) | (simp; omega)) _)) g (R91.lt g hg).2))).mono ?_; rintro e w92 ⟨vx, rfl, H92, R92, X92, B92⟩; have BB92 : Below B w w92 := Below.trans (by repeat (first | with_reducible assumption | with_reducible exact Below.refl _ _ | with_reducible refine Below.drew ?_ | with_reducible refine below_drewN ?_ _ | with_reducible refine below_alloc ?_ _ | with_reducible refine Below.alloc ?_ (by first | omega | (simp; done) | (simp; omega)) _ | with_reducible refine Below.setCell ?_ (by first | omega | (simp; done) | (simp; omega)) _ | with_reducible refine below_setRow ?_ (by first | omega | (simp; done) | (simp; omega)) _)) B92) | (go_at_call 35; refine (sameS_eq (B := B) (B' := B) _ _ _ (expO L nu) (ownsRow_at R92 (fun g hg => Below.block (B := w92.heap.size) (w := w92) (by repeat (first | with_reducible assumption | with_reducible exact Below.refl _ _ | with_reducible refine Below.drew ?_ | with_reducible refine below_drewN ?_ _ | with_reducible refine below_alloc ?_ _ | with_reducible refine Below.alloc ?_ (by first | omega | (simp; done) | (simp; omega)) _ | with_reducible refine Below.setCell ?_ (by first | omega | (simp; done) | (simp; omega)) _ | with_reducible refine below_setRow ?_ (by first | omega | (simp; done) | (simp; omega)) _)) g (R92.lt g hg).2)) (ownsRow_at X92 (fun g hg => Below.block (B := w92.heap.size) (w := w92) (by repeat (first | with_reducible assumption | with_reducible exact Below.refl _ _ | with_reducible refine Below.drew ?_ | with_reducible refine below_drewN ?_ _ | with_reducible refine below_alloc ?_ _ | with_reducible refine Below.alloc ?_ (by first | omega | (simp; done) | (simp; omega)) _ | with_reducible refine Below.setCell ?_ (by first | omega | (simp; done) | (simp; omega)) _ | with_reducible refine below_setRow ?_ (by first | omega | (simp; done) | (simp; omega)) _)) g (X92.lt g hg).2)) HLE.out).mono ?_; rintro e w93 ⟨rfl, B93⟩; have b93 : Below w92.heap.size w92 w93 := Below.trans (by repeat (first | with_reducible assumption | with_reducible exact Below.refl _ _ | with_reducible refine Below.drew ?_ | with_reducible refine below_drewN ?_ _ | with_reducible refine below_alloc ?_ _ | with_reducible refine Below.alloc ?_ (by first | omega | (simp; done) | (simp; omega)) _ | with_reducible refine Below.setCell ?_ (by first | omega | (simp; done) | (simp; omega)) _ | with_reducible refine below_setRow ?_ (by first | omega | (simp; done) | (simp; omega)) _)) (B93.mono (Below.size (B := w92.heap.size) (w := w92) (by repeat (first | with_reducible assumption | with_reducible exact Below.refl _ _ | with_reducible refine Below.drew ?_ | with_reducible refine below_drewN ?_ _ | with_reducible refine below_alloc ?_ _ | with_reducible refine Below.alloc ?_ (by first | omega | (simp; done) | (simp; omega)) _ | with_reducible refine Below.setCell ?_ (by first | omega | (simp; done) | (simp; omega)) _ | with_reducible refine below_setRow ?_ (by first | omega | (simp; done) | (simp; omega)) _)))); have H93 := H92.below b93; have BB93 : Below B w w93 := BB92.trans (b93.mono H92.1.le)))
  all_goals
    have HF : Hid (StepW B w w93 T R) := ⟨_, H93.1, BB93⟩
    clear H1 H91 H92 H93 BB91 BB92 BB93 B91 B92 B93 b93 HB1 hb1p R91 R92 X92
    go_wp2
    go_ret
    exact ⟨rfl, HF.out⟩
set_option maxRecDepth 20000 in
set_option maxHeartbeats 4000000 in
theorem stepW4 (B T R : Nat) (L : List Nd) (s : ByteArray) (ep nu a b c d : Int) (w : World) (h : PairW B w T R L L) (hs : s.size ≤ 281474976710656) :
    Calls Try.prog 17 #[.pointer (some ⟨T, 0, none⟩), .pointer (some ⟨R, 0, none⟩), .agg #[.int .i64 4, .string s, .int .i64 ep, .int .i64 nu, .int .i64 a, .int .i64 b, .int .i64 c, .int .i64 d]] w fun e w' => e = .returned (.bool true) ∧ StepW B w w' T R := by
  have HH := hid h
  have HS := hid hs
  clear h hs
  go_enter Try.func17, Try.ntmps17
  go_upto_region 11 with fail
  refine wp_name ?_
  intro w1 hw1
  have B1 : Below w.heap.size w w1 := by rw [hw1]; exact (by repeat (first | with_reducible assumption | with_reducible exact Below.refl _ _ | with_reducible refine Below.drew ?_ | with_reducible refine below_drewN ?_ _ | with_reducible refine below_alloc ?_ _ | with_reducible refine Below.alloc ?_ (by first | omega | (simp; done) | (simp; omega)) _ | with_reducible refine Below.setCell ?_ (by first | omega | (simp; done) | (simp; omega)) _ | with_reducible refine below_setRow ?_ (by first | omega | (simp; done) | (simp; omega)) _))
  have X1 : w1.heap[w.heap.size]? = some (.cells #[.int .i64 4, .string s, .int .i64 ep, .int .i64 nu, .int .i64 a, .int .i64 b, .int .i64 c, .int .i64 d] 41 (0, 0)) := by rw [hw1]; exact at_of (by apply Exists.intro; refine ⟨?_, ?_⟩; (focus ((repeat (first | (with_reducible assumption) | (with_reducible exact alloc_at _ _) | ((with_reducible apply alloc_at'); (simp; done)) | (with_reducible apply alloc_at_lt) | (with_reducible apply heap_drew_at) | (with_reducible apply heap_drewN_at) | (with_reducible apply heap_setCell_same) | ((with_reducible apply heap_set_ne); (first | omega | (dsimp only; omega) | (simp; done) | (simp; omega))) | (with_reducible apply setRow_at) | ((with_reducible apply setRow_ne); (first | omega | (dsimp only; omega) | (simp; done) | (simp; omega))))))); simp)
  have H1 : HalfW B w1 T R L L w.heap.size #[.int .i64 4, .string s, .int .i64 ep, .int .i64 nu, .int .i64 a, .int .i64 b, .int .i64 c, .int .i64 d] := ⟨HH.out.below B1, X1⟩
  have HB1 := hid (B1.mono HH.out.le)
  have HL1 := hid B1
  clear hw1
  clear B1
  have x1 : w1.cell? ⟨w.heap.size, 1, none⟩ = some (.string s) := (blk_cell X1 1).trans rfl
  have xl := lt_of_at X1
  have xf := blk_free X1
  have HX1 := hid H1
  have hg1 := get_b B T L s w1 H1.1.tab (Nat.le_trans HS.out (by decide))
  have hE : ∀ w, (Op.equalIn 10000 34 (ndV (getR L s).1) (ndV (getR L s).1)).run Try.prog w = .ok true w := fun w => by rw [eqN, (eqNB_iff _ _).2 rfl]
  have HRG : Hid (∀ W, HalfW B W T R L L w.heap.size #[.int .i64 4, .string s, .int .i64 ep, .int .i64 nu, .int .i64 a, .int .i64 b, .int .i64 c, .int .i64 d] → Calls Try.prog 37 #[.pointer (some ⟨R, 0, none⟩), .string s] W fun e w' => e = .returned (.tuple #[ndV (getR L s).1, .int .i64 (getR L s).2]) ∧ Below W.heap.size W w') := fun W hW => by
    obtain ⟨v, hv⟩ := hW.1.ref
    exact rget_any B R v L s W hv HH.out.len
  clear H1 X1
  generalize getR L s = r at hg1 hE HRG
  obtain ⟨⟨z0, z1, ⟨z2, z3, z4, z5⟩, z6, z7⟩, er⟩ := r
  simp only [ndV, cellsN] at hg1 hE HRG
  have HE := hid hE
  clear hE
  go_wp2_with fail
  refine hg1.mono ?_
  rintro e w2 ⟨rfl, hb2⟩
  have H2 := HX1.out.below hb2
  have HB2 : Hid (Below w1.heap.size w1 w2) := hb2
  clear x1 xl xf hg1 hb2
  have X2 := H2.2
  have HX2 := hid H2
  have y1 : w2.cell? ⟨w.heap.size, 1, none⟩ = some (.string s) := (blk_cell X2 1).trans rfl
  have yl := lt_of_at X2
  clear H2 X2
  go_upto_region 12 with fail
  refine wp_name ?_
  intro w3 hw3
  have B3 : Below w2.heap.size w2 w3 := by rw [hw3]; exact (by repeat (first | with_reducible assumption | with_reducible exact Below.refl _ _ | with_reducible refine Below.drew ?_ | with_reducible refine below_drewN ?_ _ | with_reducible refine below_alloc ?_ _ | with_reducible refine Below.alloc ?_ (by first | omega | (simp; done) | (simp; omega)) _ | with_reducible refine Below.setCell ?_ (by first | omega | (simp; done) | (simp; omega)) _ | with_reducible refine below_setRow ?_ (by first | omega | (simp; done) | (simp; omega)) _))
  have N3 : w3.heap[w2.heap.size]? = some (.cells #[.string z0, .int .i64 z1, .int .i64 z2, .int .i64 z3, .int .i64 z4, .int .i64 z5, .int .i64 z6, .bool z7] 34 (0, 0)) := by rw [hw3]; exact at_of (by apply Exists.intro; refine ⟨?_, ?_⟩; (focus ((repeat (first | (with_reducible assumption) | (with_reducible exact alloc_at _ _) | ((with_reducible apply alloc_at'); (simp; done)) | (with_reducible apply alloc_at_lt) | (with_reducible apply heap_drew_at) | (with_reducible apply heap_drewN_at) | (with_reducible apply heap_setCell_same) | ((with_reducible apply heap_set_ne); (first | omega | (dsimp only; omega) | (simp; done) | (simp; omega))) | (with_reducible apply setRow_at) | ((with_reducible apply setRow_ne); (first | omega | (dsimp only; omega) | (simp; done) | (simp; omega))))))); simp)
  have H3 := HX2.out.below B3
  have X3 := H3.2
  have HB3 : Hid (Below w1.heap.size w1 w3) := HB2.out.trans (B3.mono HB2.out.size)
  have u1 : w3.cell? ⟨w.heap.size, 1, none⟩ = some (.string s) := (blk_cell X3 1).trans rfl
  have ul := lt_of_at X3
  have hr3 := HRG.out w3 H3
  have HX3 := hid H3
  clear hw3 y1 yl B3 X3 H3
  go_wp2_with fail
  refine hr3.mono ?_
  rintro e w4 ⟨rfl, hb4⟩
  have N4 := below_at hb4 (lt_of_at N3) N3
  have HX4 := hid (HX3.out.below hb4)
  have HB4 : Hid (Below w1.heap.size w1 w4) := HB3.out.trans (hb4.mono HB3.out.size)
  clear u1 ul hr3 hb4 N3
  have n0 : w4.cell? ⟨w2.heap.size, 0, none⟩ = some (.string z0) := (blk_cell N4 0).trans rfl
  have n1 : w4.cell? ⟨w2.heap.size, 1, none⟩ = some (.int .i64 z1) := (blk_cell N4 1).trans rfl
  have n2 : w4.cell? ⟨w2.heap.size, 2, none⟩ = some (.int .i64 z2) := (blk_cell N4 2).trans rfl
  have n3 : w4.cell? ⟨w2.heap.size, 3, none⟩ = some (.int .i64 z3) := (blk_cell N4 3).trans rfl
  have n4 : w4.cell? ⟨w2.heap.size, 4, none⟩ = some (.int .i64 z4) := (blk_cell N4 4).trans rfl
  have n5 : w4.cell? ⟨w2.heap.size, 5, none⟩ = some (.int .i64 z5) := (blk_cell N4 5).trans rfl
  have n6 : w4.cell? ⟨w2.heap.size, 6, none⟩ = some (.int .i64 z6) := (blk_cell N4 6).trans rfl
  have n7 : w4.cell? ⟨w2.heap.size, 7, none⟩ = some (.bool z7) := (blk_cell N4 7).trans rfl
  have nl := lt_of_at N4
  have hE := HE.out
  clear N4
  go_wp2
  all_goals
    go_ret
    exact ⟨by simp, _, HX4.out.1.below (by repeat (first | with_reducible assumption | with_reducible exact Below.refl _ _ | with_reducible refine Below.drew ?_ | with_reducible refine below_drewN ?_ _ | with_reducible refine below_alloc ?_ _ | with_reducible refine Below.alloc ?_ (by first | omega | (simp; done) | (simp; omega)) _ | with_reducible refine Below.setCell ?_ (by first | omega | (simp; done) | (simp; omega)) _ | with_reducible refine below_setRow ?_ (by first | omega | (simp; done) | (simp; omega)) _)), (HB1.out.trans ((HB4.out.mono (by have := HH.out.le; have := HL1.out.size; omega)))).trans (Below.mono (by repeat (first | with_reducible assumption | with_reducible exact Below.refl _ _ | with_reducible refine Below.drew ?_ | with_reducible refine below_drewN ?_ _ | with_reducible refine below_alloc ?_ _ | with_reducible refine Below.alloc ?_ (by first | omega | (simp; done) | (simp; omega)) _ | with_reducible refine Below.setCell ?_ (by first | omega | (simp; done) | (simp; omega)) _ | with_reducible refine below_setRow ?_ (by first | omega | (simp; done) | (simp; omega)) _)) HX4.out.1.le)⟩
set_option maxRecDepth 20000 in
set_option maxHeartbeats 4000000 in
theorem stepWo (B T R : Nat) (L : List Nd) (s : ByteArray) (k ep nu a b c d : Int) (w : World) (k1 : ¬ k = 1) (k2 : ¬ k = 2) (k3 : ¬ k = 3) (k4 : ¬ k = 4) (h : PairW B w T R L L) (_hs : s.size ≤ 281474976710656) :
    Calls Try.prog 17 #[.pointer (some ⟨T, 0, none⟩), .pointer (some ⟨R, 0, none⟩), .agg #[.int .i64 k, .string s, .int .i64 ep, .int .i64 nu, .int .i64 a, .int .i64 b, .int .i64 c, .int .i64 d]] w fun e w' => e = .returned (.bool true) ∧ StepW B w w' T R := by
  have HH := hid h
  clear h _hs
  have e1 : (k == 1) = false := by simp; exact k1
  have e2 : (k == 2) = false := by simp; exact k2
  have e3 : (k == 3) = false := by simp; exact k3
  have e4 : (k == 4) = false := by simp; exact k4
  go_enter Try.func17, Try.ntmps17
  go_wp2
  go_ret
  exact ⟨rfl, _, HH.out.below (by repeat (first | with_reducible assumption | with_reducible exact Below.refl _ _ | with_reducible refine Below.drew ?_ | with_reducible refine below_drewN ?_ _ | with_reducible refine below_alloc ?_ _ | with_reducible refine Below.alloc ?_ (by first | omega | (simp; done) | (simp; omega)) _ | with_reducible refine Below.setCell ?_ (by first | omega | (simp; done) | (simp; omega)) _ | with_reducible refine below_setRow ?_ (by first | omega | (simp; done) | (simp; omega)) _)), (Below.mono (by repeat (first | with_reducible assumption | with_reducible exact Below.refl _ _ | with_reducible refine Below.drew ?_ | with_reducible refine below_drewN ?_ _ | with_reducible refine below_alloc ?_ _ | with_reducible refine Below.alloc ?_ (by first | omega | (simp; done) | (simp; omega)) _ | with_reducible refine Below.setCell ?_ (by first | omega | (simp; done) | (simp; omega)) _ | with_reducible refine below_setRow ?_ (by first | omega | (simp; done) | (simp; omega)) _)) HH.out.le)⟩
theorem stepW_any (B T R : Nat) (L : List Nd) (s : ByteArray) (k ep nu a b c d : Int) (w : World) (h : PairW B w T R L L) (hs : s.size ≤ 281474976710656) :
    Calls Try.prog 17 #[.pointer (some ⟨T, 0, none⟩), .pointer (some ⟨R, 0, none⟩), .agg #[.int .i64 k, .string s, .int .i64 ep, .int .i64 nu, .int .i64 a, .int .i64 b, .int .i64 c, .int .i64 d]] w fun e w' => e = .returned (.bool true) ∧ StepW B w w' T R := by
  by_cases k1 : k = 1
  · subst k1; exact stepW1 B T R L s ep nu a b c d w h hs
  · by_cases k2 : k = 2
    · subst k2; exact stepW2 B T R L s ep nu a b c d w h hs
    · by_cases k3 : k = 3
      · subst k3; exact stepW3 B T R L s ep nu a b c d w h hs
      · by_cases k4 : k = 4
        · subst k4; exact stepW4 B T R L s ep nu a b c d w h hs
        · exact stepWo B T R L s k ep nu a b c d w k1 k2 k3 k4 h hs
end Go.Proofs.Ytkplhobiciddoaa
