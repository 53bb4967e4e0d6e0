/- Chapter 20: the reader's command: submit. -/
import Derived.Test.YtidcbcljeofooaaGreatDoorOrI
namespace Go.Proofs.YtidcbcljeofooaaGreatDoor
open Go.RowKit
/-- A submit under way. -/
def cj (x1 : Int) (x2 : ByteArray) (x3 x4 : Int) (zs : List Int) (vs : List V) : Cm := { cmK 2 with job := ⟨x1, x2, x3, x4, zs, vs, 0, 0, [], 0, []⟩ }
def sj (A1 : Option Addr) (c1 : Nat) (A2 : Option Addr) (c2 : Nat) : Sls := ⟨A1, c1, A2, c2, none, 0, none, 0⟩
/-- Vectors are read, one by one: those of the words P. -/
structure LpI (R g B1 : Nat) (b0 : Bool) (P : List (List UInt8)) (x1 : Int) (x2 : ByteArray) (x3 x4 : Int) (zs : List Int) (A1 : Option Addr) (c1 : Nat) (vs : List V) (A : Option Addr) (cap : Nat) (w0 wr : World) : Prop where
  blk : wr.heap[g]? = some (.cells (cmB (cj x1 x2 x3 x4 zs vs) (sj A1 c1 A cap)) 33 (0, 0))
  row : wr.ownsRow B1 24 4 (.slice A vs.length cap) vs.length (flatR 4 fV vs)
  rd : wr.heap[R]? = some (.cells #[.bool (b0 || (allP vecP (P.take vs.length)).isNone)] 63 (0, 0))
  tur : Tur (fun k => k = R ∨ k = g) w0 wr
  is : ∀ m, allP vecP (P.take vs.length) = some m → vs = m.map vI
  le : vs.length ≤ P.length
theorem allV_flag {P : List (List UInt8)} {i : Nat} {x : List UInt8} (hx : P[i]? = some x) : (allP vecP (P.take (i + 1))).isNone = ((allP vecP (P.take i)).isNone || (vecP x).isNone) := by
  rw [List.take_add_one, hx, Option.toList_some, allP_snoc]
  cases allP vecP (P.take i) <;> cases vecP x <;> rfl
section
variable {R g B1 : Nat} {b0 : Bool} {P : List (List UInt8)} {x1 : Int} {x2 : ByteArray} {x3 x4 : Int} {zs : List Int} {A1 : Option Addr} {c1 : Nat} {vs : List V} {A : Option Addr} {cap : Nat} {w w0 wr w3 w5 : World}
theorem lp_call {b' : Bool} (h : LpI R g w0.heap.size b0 P x1 x2 x3 x4 zs A1 c1 vs A cap w0 wr) (hr : Rdr R b' wr.drew w3) (_hg : g < w0.heap.size) (hk : g ≠ R) :
    Hid (w3.heap[g]? = some (.cells (cmB (cj x1 x2 x3 x4 zs vs) (sj A1 c1 A cap)) 33 (0, 0))) ∧ Hid (w3.ownsRow w0.heap.size 24 4 (.slice A vs.length cap) vs.length (flatR 4 fV vs)) ∧ Hid (w0.heap.size ≤ w3.heap.size) ∧ Hid (Tur (fun k => k = R ∨ k = g) w0 w3) := by
  have hs : w0.heap.size ≤ wr.heap.size := h.tur.size
  have hs3 : wr.heap.size ≤ w3.heap.size := hr.size
  refine ⟨hr.blk h.blk hk, rowR_kept h.row fun k hk2 => hr.2.block k (h.row.lt k hk2).2 (fun e => ?_), Nat.le_trans hs hs3, ?_⟩
  · injection e with e
    have h1 := (h.row.lt k hk2).1
    have h2 := lt_of_at h.rd
    have h3 : R < w0.heap.size ∨ w0.heap.size ≤ R := Nat.lt_or_ge _ _
    rcases h3 with h3 | h3
    · omega
    · subst e
      obtain ⟨-, q | ⟨g2, c2, cur, e2, -, hh, -⟩⟩ := h.row
      · rw [q.1] at hk2; cases hk2
      · rw [e2] at hk2
        injection hk2 with hk2
        subst hk2
        have e3 := hh.symm.trans h.rd
        injection e3 with e3
        injection e3 with e3 e4
        exact absurd e4 (by decide)
  · exact h.tur.trans (G := fun k => k = R) ⟨hr.2.os, hr.2.tape, hr.2.output, hr.size, fun k hk2 hn => hr.2.block k hk2 (fun e => hn (by injection e))⟩ (fun i hi => .inl (.inl hi))
theorem lp_app {c : Cm} {s : Sls} {o : Obj} (h : w3.heap[g]? = some (.cells (cmB c s) 33 (0, 0))) (hB : w0.heap.size ≤ w3.heap.size) (hb : Below w0.heap.size (w3.alloc o) w5) (hg : g < w0.heap.size) : w5.heap[g]? = some (.cells (cmB c s) 33 (0, 0)) :=
  (hb.block g hg).trans ((Below.heap_alloc w3 o g (Nat.lt_of_lt_of_le hg hB)).trans h)
theorem lp_next {y : List UInt8} {va vb vc vd : Int} {g' cap' : Nat} {o : Obj} (h : LpI R g w0.heap.size b0 P x1 x2 x3 x4 zs A1 c1 vs A cap w0 wr) (hx : P[vs.length]? = some y) (hv : ∀ x, vecP y = some x → (va, vb, vc, vd) = vI x)
    (hr : Rdr R (b0 || (allP vecP (P.take vs.length)).isNone || (vecP y).isNone) wr.drew w3) (hC : w5.heap[g]? = some (.cells (cmB (cj x1 x2 x3 x4 zs vs) (sj A1 c1 A cap)) 33 (0, 0)))
    (hown : w5.ownsRow w0.heap.size 24 4 (.slice (some ⟨g', 0, none⟩) (vs.length + 1) cap') (vs.length + 1) (flatR 4 fV (vs ++ [(va, vb, vc, vd)]))) (hb : Below w0.heap.size (w3.alloc o) w5) (hB : w0.heap.size ≤ w3.heap.size) (hg : g < w0.heap.size) (_hR : R < w.heap.size) (hk : g ≠ R) (ht : Tur (fun k => k = R ∨ k = g) w0 w3) (hR0 : R < w0.heap.size := by omega) :
    LpI R g w0.heap.size b0 P x1 x2 x3 x4 zs A1 c1 (vs ++ [(va, vb, vc, vd)]) (some ⟨g', 0, none⟩) cap' w0 (w5.setCell ⟨g, 12, none⟩ (.slice (some ⟨g', 0, none⟩) (vs.length + 1) cap')) := by
  have hl : (vs ++ [(va, vb, vc, vd)]).length = vs.length + 1 := by simp
  have hpl := (List.getElem?_eq_some_iff.1 hx).1
  refine ⟨cm_put12 hC (vs ++ [(va, vb, vc, vd)]) _ _ _ hl.symm, ?_, ?_, ?_, ?_, by rw [hl]; exact hpl⟩
  · rw [hl]
    exact rowR_kept hown fun k hk2 => heap_setCell_other _ _ k _ (by have := (hown.lt k hk2).1; show k ≠ g; omega)
  · rw [hl, allV_flag hx, ← Bool.or_assoc]
    refine (heap_setCell_other _ ⟨g, 12, none⟩ R _ (by show R ≠ g; omega)).trans ?_
    refine (hb.block R hR0).trans ((Below.heap_alloc w3 o R (Nat.lt_of_lt_of_le hR0 hB)).trans hr.1)
  · refine ⟨?_, ?_, ?_, ?_, fun k hk2 hn => ?_⟩
    · exact (hb.os.trans (by rfl : (w3.alloc o).os = w3.os)).trans ht.os
    · exact (hb.tape.trans (by rfl : (w3.alloc o).tape = w3.tape)).trans ht.tape
    · exact (hb.output.trans (by rfl : (w3.alloc o).output = w3.output)).trans ht.output
    · rw [World.size_setCell]
      have := hb.size
      rw [World.size_alloc] at this
      have := ht.size
      omega
    · refine (heap_setCell_other _ ⟨g, 12, none⟩ k _ (fun e => hn (.inr e))).trans ?_
      exact (hb.block k hk2).trans ((Below.heap_alloc w3 o k (Nat.lt_of_lt_of_le hk2 hB)).trans (ht.kept k hk2 hn))
  · intro m hm
    rw [hl, List.take_add_one, hx, Option.toList_some, allP_snoc] at hm
    cases q1 : allP vecP (P.take vs.length) with
    | none => rw [q1] at hm; cases hm
    | some l' =>
      cases q2 : vecP y with
      | none => rw [q1, q2] at hm; cases hm
      | some m' =>
        rw [q1, q2] at hm
        replace hm := Option.some.inj hm
        rw [← hm, List.map_append, ← h.is _ q1, hv _ q2]
        rfl
theorem lp_step {y : List UInt8} {va vb vc vd : Int} (h : LpI R g w0.heap.size b0 P x1 x2 x3 x4 zs A1 c1 vs A cap w0 wr) (hx : P[vs.length]? = some y) (hv : ∀ x, vecP y = some x → (va, vb, vc, vd) = vI x)
    (hr : Rdr R (b0 || (allP vecP (P.take vs.length)).isNone || (vecP y).isNone) wr.drew w3) (hg : g < w0.heap.size) (hR : R < w.heap.size) (hk : g ≠ R) (hR0 : R < w0.heap.size) (hn : vs.length + 1 ≤ 1000000) :
    ∃ g' cap' w5, g < w3.heap.size ∧ Hid ((Builtin.append_ #[28, 28] 28 #[.slice A vs.length cap, .slice (some ⟨w3.heap.size, 0, none⟩) 1 1]).run Tryz.prog (w3.alloc (.cells #[.int .i64 va, .int .i64 vb, .int .i64 vc, .int .i64 vd] 24)) = .ok (.slice (some ⟨g', 0, none⟩) (vs.length + 1) cap') w5) ∧
      (w3.cell? ⟨g, 12, none⟩ = some (.slice A vs.length cap) ∧ ∀ i, w3.frozen? ⟨g, i, none⟩ = false) ∧ (w5.cell? ⟨g, 12, none⟩ = some (.slice A vs.length cap) ∧ ∀ i, w5.frozen? ⟨g, i, none⟩ = false) ∧
      Hid (LpI R g w0.heap.size b0 P x1 x2 x3 x4 zs A1 c1 (vs ++ [(va, vb, vc, vd)]) (some ⟨g', 0, none⟩) cap' w0 (w5.setCell ⟨g, 12, none⟩ (.slice (some ⟨g', 0, none⟩) (vs.length + 1) cap'))) := by
  obtain ⟨C3, R3, B3, N3⟩ := lp_call h hr hg hk
  obtain ⟨g', cap', w5, happ, hown, hb5, -⟩ := rowV_app (a := va) (b := vb) (c := vc) (d := vd) R3.out hn B3.out (below_alloc (Below.refl _ _) _) (alloc_at w3 _)
  have C5 := lp_app C3.out B3.out hb5 hg
  exact ⟨g', cap', w5, Nat.lt_of_lt_of_le hg B3.out, happ, ⟨(cmB_cell C3.out 12).trans (cm_at12 _ _), blk_free C3.out⟩, ⟨(cmB_cell C5 12).trans (cm_at12 _ _), blk_free C5⟩, lp_next h hx hv hr C5 hown hb5 B3.out hg hR hk N3.out hR0⟩
theorem lp_far {B6 : Nat} {n c : Nat} {xs ys : List Value} (h : wr.ownsRow w0.heap.size 24 4 (.slice A n cap) n xs) (hrow : w0.ownsRow B6 2 1 (.slice A1 c c1) c ys ∧ w.heap.size + 1 < B6 ∧ B6 ≤ w0.heap.size) (_ : R < w.heap.size) : SlsB w.heap.size (sj A1 c1 A cap) := by
  obtain ⟨h1, h2, h3⟩ := hrow
  rintro a (q | q | q | q)
  · have := (h1.lt a.block (by show (Value.slice A1 c c1).ownBlock = _; rw [show A1 = some a from q]; rfl)).1; omega
  · have := (h.lt a.block (by show (Value.slice A n cap).ownBlock = _; rw [show A = some a from q]; rfl)).1; omega
  · cases q
  · cases q
theorem lp_done {b' : Bool} (h : LpI R g w0.heap.size b0 P x1 x2 x3 x4 zs A1 c1 vs A cap w0 wr) (hl : vs.length = P.length) (hD : Rdr R b' w w0) (_hR : R < w.heap.size) (_hg : g < w0.heap.size) (_hk : g ≠ R) (hgw : w.heap.size ≤ g := by omega) : Rdr R (b0 || (allP vecP P).isNone) w wr := by
  have hrd := h.rd
  rw [hl, List.take_length] at hrd
  refine ⟨hrd, h.tur.os.trans hD.2.os, h.tur.tape.trans hD.2.tape, h.tur.output.trans hD.2.output, Nat.le_trans hD.size h.tur.size, fun k hk2 hn => ?_⟩
  refine (h.tur.kept k (Nat.lt_of_lt_of_le hk2 hD.size) ?_).trans (hD.2.block k hk2 hn)
  rintro (q | q)
  · exact hn (by rw [q])
  · omega
theorem lp_sl {B6 : Nat} {cs : Array Value} (h : LpI R (w.heap.size + 1) w0.heap.size b0 P x1 x2 x3 x4 zs A1 c1 vs A cap w0 wr) (hrow : w0.ownsRow B6 2 1 (.slice A1 zs.length c1) zs.length (flatR 1 fZ zs) ∧ w.heap.size + 1 < B6 ∧ B6 ≤ w0.heap.size) (hR : R < w.heap.size) (_hk : w.heap.size + 1 ≠ R) :
    Sl4 (wr.setRow w.heap.size cs) (cj x1 x2 x3 x4 zs vs).job (sj A1 c1 A cap) := by
  obtain ⟨h1, h2, h3⟩ := hrow
  refine ⟨?_, ?_, slG_nil, slG_nil⟩
  · refine SlG.of_row (B := B6) (T := 2) (cap := c1) (by omega) (rowR_kept h1 fun k hk2 => ?_)
    have h4 := h1.lt k hk2
    refine (setRow_other wr _ k _ (by omega)).trans (h.tur.kept k h4.2 ?_)
    rintro (q | q) <;> omega
  · refine SlG.of_row (B := w0.heap.size) (T := 24) (cap := cap) (by omega) (rowR_kept h.row fun k hk2 => ?_)
    have h4 := h.row.lt k hk2
    have : w.heap.size + 1 < w0.heap.size := by omega
    exact setRow_other wr _ k _ (by omega)
end
section
attribute [local go_sem ↓] zeroCmd buildCmd0 cmB_kind
set_option maxHeartbeats 16000000 in
set_option maxRecDepth 20000 in
theorem command_2 {w : World} {R b off n cap : Nat} {ws : List ByteArray} (bad : Bool) (hR : w.heap[R]? = some (.cells #[.bool bad] 63 (0, 0))) (hW : Wds w R b off n ws) (hn : 7 ≤ n) (hn2 : n ≤ 100000) (hcap : n ≤ cap) :
    Calls Tryz.prog 25 #[.pointer (some ⟨R, 0, none⟩), .int .i64 2, .slice (some ⟨b, off, none⟩) n cap] w (ComQ R bad 2 ws w) := by
  have HR := hid hR
  have HW := hid hW
  clear hR hW
  have hlr : R < w.heap.size := lt_of_at HR.out
  have hA : ((w.alloc (.cells (cmB cm0 s0) 33)).alloc (.cells (cmB cm0 s0) 33)).heap[w.heap.size + 1]? = some (.cells (cmB cm0 s0) 33 (0, 0)) := (by (repeat (first | (with_reducible assumption) | (with_reducible exact alloc_at _ _) | ((with_reducible apply alloc_at'); (simp; done)) | (with_reducible apply alloc_at_lt) | (with_reducible apply heap_drew_at) | (with_reducible apply heap_drewN_at) | (with_reducible apply heap_setCell_same) | ((with_reducible apply heap_set_ne); (first | omega | (dsimp only; omega) | (simp; done) | (simp; omega))) | (with_reducible apply setRow_at) | ((with_reducible apply setRow_ne); (first | omega | (dsimp only; omega) | (simp; done) | (simp; omega))))))
  have hne := cmB_ne cm0 s0
  obtain ⟨x1, hx1⟩ : ∃ x, x = wd ws 1 := ⟨_, rfl⟩
  obtain ⟨x2, hx2⟩ : ∃ x, x = wd ws 2 := ⟨_, rfl⟩
  obtain ⟨x3, hx3⟩ : ∃ x, x = wd ws 3 := ⟨_, rfl⟩
  obtain ⟨x4, hx4⟩ : ∃ x, x = wd ws 4 := ⟨_, rfl⟩
  obtain ⟨x5, hx5⟩ : ∃ x, x = wd ws 5 := ⟨_, rfl⟩
  have KW : ∀ b2 X, Rdr R b2 w X → X.cell? ⟨b, off + 1, none⟩ = some (.string x1) ∧ X.cell? ⟨b, off + 2, none⟩ = some (.string x2) ∧ X.cell? ⟨b, off + 3, none⟩ = some (.string x3) ∧ X.cell? ⟨b, off + 4, none⟩ = some (.string x4) ∧ X.cell? ⟨b, off + 5, none⟩ = some (.string x5) := fun b2 X h => ⟨(by rw [hx1]; exact HW.out.at_ h (by omega)), (by rw [hx2]; exact HW.out.at_ h (by omega)), (by rw [hx3]; exact HW.out.at_ h (by omega)), (by rw [hx4]; exact HW.out.at_ h (by omega)), (by rw [hx5]; exact HW.out.at_ h (by omega))⟩
  have HKW := hid KW
  clear KW
  have hs1 : x1.size ≤ 100000 := by rw [hx1]; exact HW.out.sm (by omega)
  have hs3 : x3.size ≤ 100000 := by rw [hx3]; exact HW.out.sm (by omega)
  have hs4 : x4.size ≤ 100000 := by rw [hx4]; exact HW.out.sm (by omega)
  have hs5 : x5.size ≤ 100000 := by rw [hx5]; exact HW.out.sm (by omega)
  have HX : Hid (x1 = wd ws 1 ∧ x2 = wd ws 2 ∧ x3 = wd ws 3 ∧ x4 = wd ws 4 ∧ x5 = wd ws 5) := ⟨hx1, hx2, hx3, hx4, hx5⟩
  clear hx1 hx2 hx3 hx4 hx5
  have hni : (7 : Int) ≤ (n : Int) := by omega
  have hci : (n : Int) ≤ (cap : Int) := by omega
  have b1 : (1 : Int) < (n : Int) := by omega
  have b2 : (2 : Int) < (n : Int) := by omega
  have b3 : (3 : Int) < (n : Int) := by omega
  have b4 : (4 : Int) < (n : Int) := by omega
  have b5 : (5 : Int) < (n : Int) := by omega
  have b6 : (6 : Int) < (n : Int) := by omega
  go_enter Tryz.func25, Tryz.ntmps25
  go_upto_region 6 with (first | (refine wpList_store_row rfl 33 (.tmp 7) (.tmp 11) rfl (w.heap.size + 1) (cmB (cmK 2) s0) (by simp [Act.eval]) (by simp [Act.eval]) _ _ hA (infoC' _ _) (cmB_sizes _ _ _ _) (cmB_ones _ _) ?_))
  refine wp_name ?_
  intro wr hwr
  have Cr : wr.heap[w.heap.size + 1]? = some (.cells (cmB (cmK 2) s0) 33 (0, 0)) := by
    rw [hwr]; exact setRow_at hA _
  have Or : wr.heap[w.heap.size]? = some (.cells (cmB cm0 s0) 33 (0, 0)) := by
    rw [hwr]; refine setRow_ne (by omega) ?_ _; exact (by (repeat (first | (with_reducible assumption) | (with_reducible exact alloc_at _ _) | ((with_reducible apply alloc_at'); (simp; done)) | (with_reducible apply alloc_at_lt) | (with_reducible apply heap_drew_at) | (with_reducible apply heap_drewN_at) | (with_reducible apply heap_setCell_same) | ((with_reducible apply heap_set_ne); (first | omega | (dsimp only; omega) | (simp; done) | (simp; omega))) | (with_reducible apply setRow_at) | ((with_reducible apply setRow_ne); (first | omega | (dsimp only; omega) | (simp; done) | (simp; omega))))))
  have Br : Below w.heap.size w wr := by
    rw [hwr]; exact (by repeat (first | with_reducible assumption | with_reducible exact Below.refl _ _ | with_reducible refine Below.drew ?_ | with_reducible refine below_drewN ?_ _ | with_reducible refine below_alloc ?_ _ | with_reducible refine Below.alloc ?_ (by first | omega | (simp; done) | (simp; omega)) _ | with_reducible refine Below.setCell ?_ (by first | omega | (simp; done) | (simp; omega)) _ | with_reducible refine below_setRow ?_ (by first | omega | (simp; done) | (simp; omega)) _))
  have Dr : Rdr R bad w wr := rdr_below Br ((Br.block R hlr).trans HR.out)
  have Dr0 := hid Dr.drew
  have Cr0 : wr.drew.heap[w.heap.size + 1]? = some (.cells (cmB (cmK 2) s0) 33 (0, 0)) := Cr
  have Or0 : wr.drew.heap[w.heap.size]? = some (.cells (cmB cm0 s0) 33 (0, 0)) := Or
  have hk1 : w.heap.size + 1 ≠ R := by omega
  have hk0 : w.heap.size ≠ R := by omega
  clear hwr hA Br Cr Or
  obtain ⟨l1, l2, l3, l4, l5⟩ := HKW.out _ _ Dr
  obtain ⟨ld1, ld2, ld3, ld4, ld5⟩ := HKW.out _ _ Dr0.out
  clear Dr
  go_region_held3 (fun X => X.cell? ⟨b, off + 1, none⟩ = some (.string x1) ∧ X.cell? ⟨b, off + 2, none⟩ = some (.string x2) ∧ X.cell? ⟨b, off + 3, none⟩ = some (.string x3) ∧ X.cell? ⟨b, off + 4, none⟩ = some (.string x4) ∧ X.cell? ⟨b, off + 5, none⟩ = some (.string x5)) (first | ((refine ⟨?_, ?_, ?_, ?_, ?_⟩) <;> with_reducible assumption) | (with_reducible refine HKW.out _ _ (Rdr.on D7.out hlr ?_); exact (by repeat (first | with_reducible assumption | with_reducible exact Below.refl _ _ | with_reducible refine Below.drew ?_ | with_reducible refine below_drewN ?_ _ | with_reducible refine Below.alloc ?_ (by first | omega | (simp; done) | (simp; omega)) _ | with_reducible refine Below.setCell ?_ (by first | omega | (simp; done) | (simp; omega)) _ | with_reducible refine below_setRow ?_ (by first | omega | (simp; done) | (simp; omega)) _)))) (first | (go_at_call_of 54 (Value.string x1); refine (number1 Dr0.out.1 hs1).mono ?_; rintro e w4 ⟨n4, rfl, hn4, hr4⟩; have D4 := hid (Dr0.out.trans hr4); have C4 := hr4.blk Cr0 hk1; have O4 := hr4.blk Or0 hk0; have a4 := blk_free C4; obtain ⟨l4_1, l4_2, l4_3, l4_4, l4_5⟩ := HKW.out _ _ D4.out) | (go_at_call_of 54 (Value.string x3); refine (number1 D4.out.1 hs3).mono ?_; rintro e w5 ⟨n5, rfl, hn5, hr5⟩; have D5 := hid (D4.out.trans hr5); have C5 := hr5.blk C4 hk1; have O5 := hr5.blk O4 hk0; have a5 := blk_free C5; obtain ⟨l5_1, l5_2, l5_3, l5_4, l5_5⟩ := HKW.out _ _ D5.out) | (go_at_call_of 54 (Value.string x4); refine (number1 D5.out.1 hs4).mono ?_; rintro e w6 ⟨n6, rfl, hn6, hr6⟩; have D6 := hid (D5.out.trans hr6); have C6 := hr6.blk C5 hk1; have O6 := hr6.blk O5 hk0; have a6 := blk_free C6; obtain ⟨l6_1, l6_2, l6_3, l6_4, l6_5⟩ := HKW.out _ _ D6.out) | (go_at_call_of 56 (Value.string x5); refine (list1 D6.out.1 hs5).mono ?_; rintro e w7 ⟨A7, zs, c7, n7, hz7, rfl, hrow7, hn7, hr7⟩; have D7 := hid (D6.out.trans hr7); have C7 := hr7.blk C6 hk1; have O7 := hr7.blk O6 hk0; have a7 := blk_free C7; obtain ⟨l7_1, l7_2, l7_3, l7_4, l7_5⟩ := HKW.out _ _ D7.out; have HROW := hid hrow7; clear hrow7; have y7 : w7.cell? ⟨w.heap.size + 1, 7, none⟩ = some (.int .i64 0) := (cmB_cell C7 7).trans (cm_at7 _ _); have y8 : w7.cell? ⟨w.heap.size + 1, 8, none⟩ = some (.string ⟨#[]⟩) := (cmB_cell C7 8).trans (cm_at8 _ _); have y9 : w7.cell? ⟨w.heap.size + 1, 9, none⟩ = some (.int .i64 0) := (cmB_cell C7 9).trans (cm_at9 _ _); have y10 : w7.cell? ⟨w.heap.size + 1, 10, none⟩ = some (.int .i64 0) := (cmB_cell C7 10).trans (cm_at10 _ _); have y11 : w7.cell? ⟨w.heap.size + 1, 11, none⟩ = some (.slice none 0 0) := (cmB_cell C7 11).trans (cm_at11 _ _); have y12 : w7.cell? ⟨w.heap.size + 1, 12, none⟩ = some (.slice none 0 0) := (cmB_cell C7 12).trans (cm_at12 _ _); have y13 : w7.cell? ⟨w.heap.size + 1, 13, none⟩ = some (.int .i64 0) := (cmB_cell C7 13).trans (cm_at13 _ _); have y14 : w7.cell? ⟨w.heap.size + 1, 14, none⟩ = some (.int .i64 0) := (cmB_cell C7 14).trans (cm_at14 _ _); have y15 : w7.cell? ⟨w.heap.size + 1, 15, none⟩ = some (.slice none 0 0) := (cmB_cell C7 15).trans (cm_at15 _ _); have y16 : w7.cell? ⟨w.heap.size + 1, 16, none⟩ = some (.int .i64 0) := (cmB_cell C7 16).trans (cm_at16 _ _); have y17 : w7.cell? ⟨w.heap.size + 1, 17, none⟩ = some (.slice none 0 0) := (cmB_cell C7 17).trans (cm_at17 _ _)))
  have CY : (((((((((((w7.setCell ⟨w.heap.size + 1, 7, none⟩ (.int .i64 n4)).setCell ⟨w.heap.size + 1, 8, none⟩ (.string x2)).setCell ⟨w.heap.size + 1, 9, none⟩ (.int .i64 n5)).setCell ⟨w.heap.size + 1, 10, none⟩ (.int .i64 n6)).setCell ⟨w.heap.size + 1, 11, none⟩ (.slice A7 zs.length c7)).setCell ⟨w.heap.size + 1, 12, none⟩ (.slice none 0 0)).setCell ⟨w.heap.size + 1, 13, none⟩ (.int .i64 0)).setCell ⟨w.heap.size + 1, 14, none⟩ (.int .i64 0)).setCell ⟨w.heap.size + 1, 15, none⟩ (.slice none 0 0)).setCell ⟨w.heap.size + 1, 16, none⟩ (.int .i64 0)).setCell ⟨w.heap.size + 1, 17, none⟩ (.slice none 0 0)).heap[w.heap.size + 1]? = some (.cells (cmB (cj n4 x2 n5 n6 zs []) (sj A7 c7 none 0)) 33 (0, 0)) := (cm_put17 (cm_put16 (cm_put15 (cm_put14 (cm_put13 (cm_put12 (cm_put11 (cm_put10 (cm_put9 (cm_put8 (cm_put7 C7 _) _) _) _) zs _ _ _ rfl) [] _ _ _ rfl) _) _) [] _ _ _ rfl) _) [] _ _ _ rfl)
  have OY : (((((((((((w7.setCell ⟨w.heap.size + 1, 7, none⟩ (.int .i64 n4)).setCell ⟨w.heap.size + 1, 8, none⟩ (.string x2)).setCell ⟨w.heap.size + 1, 9, none⟩ (.int .i64 n5)).setCell ⟨w.heap.size + 1, 10, none⟩ (.int .i64 n6)).setCell ⟨w.heap.size + 1, 11, none⟩ (.slice A7 zs.length c7)).setCell ⟨w.heap.size + 1, 12, none⟩ (.slice none 0 0)).setCell ⟨w.heap.size + 1, 13, none⟩ (.int .i64 0)).setCell ⟨w.heap.size + 1, 14, none⟩ (.int .i64 0)).setCell ⟨w.heap.size + 1, 15, none⟩ (.slice none 0 0)).setCell ⟨w.heap.size + 1, 16, none⟩ (.int .i64 0)).setCell ⟨w.heap.size + 1, 17, none⟩ (.slice none 0 0)).heap[w.heap.size]? = some (.cells (cmB cm0 s0) 33 (0, 0)) := by
    have h0 := O7
    exact (by (repeat (first | (with_reducible assumption) | (with_reducible exact alloc_at _ _) | ((with_reducible apply alloc_at'); (simp; done)) | (with_reducible apply alloc_at_lt) | (with_reducible apply heap_drew_at) | (with_reducible apply heap_drewN_at) | (with_reducible apply heap_setCell_same) | ((with_reducible apply heap_set_ne); (first | omega | (dsimp only; omega) | (simp; done) | (simp; omega))) | (with_reducible apply setRow_at) | ((with_reducible apply setRow_ne); (first | omega | (dsimp only; omega) | (simp; done) | (simp; omega))))))
  have BY : Below w.heap.size w7 (((((((((((w7.setCell ⟨w.heap.size + 1, 7, none⟩ (.int .i64 n4)).setCell ⟨w.heap.size + 1, 8, none⟩ (.string x2)).setCell ⟨w.heap.size + 1, 9, none⟩ (.int .i64 n5)).setCell ⟨w.heap.size + 1, 10, none⟩ (.int .i64 n6)).setCell ⟨w.heap.size + 1, 11, none⟩ (.slice A7 zs.length c7)).setCell ⟨w.heap.size + 1, 12, none⟩ (.slice none 0 0)).setCell ⟨w.heap.size + 1, 13, none⟩ (.int .i64 0)).setCell ⟨w.heap.size + 1, 14, none⟩ (.int .i64 0)).setCell ⟨w.heap.size + 1, 15, none⟩ (.slice none 0 0)).setCell ⟨w.heap.size + 1, 16, none⟩ (.int .i64 0)).setCell ⟨w.heap.size + 1, 17, none⟩ (.slice none 0 0)) := (by repeat (first | with_reducible assumption | with_reducible exact Below.refl _ _ | with_reducible refine Below.drew ?_ | with_reducible refine below_drewN ?_ _ | with_reducible refine Below.alloc ?_ (by first | omega | (simp; done) | (simp; omega)) _ | with_reducible refine Below.setCell ?_ (by first | omega | (simp; done) | (simp; omega)) _ | with_reducible refine below_setRow ?_ (by first | omega | (simp; done) | (simp; omega)) _))
  have HK : ∀ k, k ≠ w.heap.size + 1 → (((((((((((w7.setCell ⟨w.heap.size + 1, 7, none⟩ (.int .i64 n4)).setCell ⟨w.heap.size + 1, 8, none⟩ (.string x2)).setCell ⟨w.heap.size + 1, 9, none⟩ (.int .i64 n5)).setCell ⟨w.heap.size + 1, 10, none⟩ (.int .i64 n6)).setCell ⟨w.heap.size + 1, 11, none⟩ (.slice A7 zs.length c7)).setCell ⟨w.heap.size + 1, 12, none⟩ (.slice none 0 0)).setCell ⟨w.heap.size + 1, 13, none⟩ (.int .i64 0)).setCell ⟨w.heap.size + 1, 14, none⟩ (.int .i64 0)).setCell ⟨w.heap.size + 1, 15, none⟩ (.slice none 0 0)).setCell ⟨w.heap.size + 1, 16, none⟩ (.int .i64 0)).setCell ⟨w.heap.size + 1, 17, none⟩ (.slice none 0 0)).heap[k]? = w7.heap[k]? := fun k hk => ((heap_setCell_other _ ⟨w.heap.size + 1, 17, none⟩ k _ hk).trans ((heap_setCell_other _ ⟨w.heap.size + 1, 16, none⟩ k _ hk).trans ((heap_setCell_other _ ⟨w.heap.size + 1, 15, none⟩ k _ hk).trans ((heap_setCell_other _ ⟨w.heap.size + 1, 14, none⟩ k _ hk).trans ((heap_setCell_other _ ⟨w.heap.size + 1, 13, none⟩ k _ hk).trans ((heap_setCell_other _ ⟨w.heap.size + 1, 12, none⟩ k _ hk).trans ((heap_setCell_other _ ⟨w.heap.size + 1, 11, none⟩ k _ hk).trans ((heap_setCell_other _ ⟨w.heap.size + 1, 10, none⟩ k _ hk).trans ((heap_setCell_other _ ⟨w.heap.size + 1, 9, none⟩ k _ hk).trans ((heap_setCell_other _ ⟨w.heap.size + 1, 8, none⟩ k _ hk).trans (heap_setCell_other _ ⟨w.heap.size + 1, 7, none⟩ k _ hk)))))))))))
  have i2 : ¬ cap = 6 := by omega
  have i3 : (6 : Int) ≤ (n : Int) := by omega
  go_wp2_with fail
  refine wp_name ?_
  intro w0 hw0
  rw [← hw0] at CY OY BY HK
  have D0 : Hid (Rdr R (bad || (numP x1.data.toList).isNone || (numP x3.data.toList).isNone || (numP x4.data.toList).isNone || (lstP x5.data.toList).isNone) w w0) := D7.out.on hlr BY
  have hz0 : w7.heap.size ≤ w0.heap.size := BY.size
  have hgl : w.heap.size + 1 < w0.heap.size := lt_of_at CY
  have HROW0 : Hid (w0.ownsRow w6.heap.size 2 1 (.slice A7 zs.length c7) zs.length (flatR 1 fZ zs) ∧ w.heap.size + 1 < w6.heap.size ∧ w6.heap.size ≤ w0.heap.size) := by
    have h6 := lt_of_at C6
    refine ⟨rowR_kept HROW.out fun g hg => HK g ?_, h6, Nat.le_trans hr7.size hz0⟩
    have := (HROW.out.lt g hg).1
    omega
  have HNM : Hid ((∀ m : Nat, numP x1.data.toList = some m → n4 = m) ∧ (∀ m : Nat, numP x3.data.toList = some m → n5 = m) ∧ (∀ m : Nat, numP x4.data.toList = some m → n6 = m) ∧ (∀ x, lstP x5.data.toList = some x → zs = x)) := ⟨hn4, hn5, hn6, hn7⟩
  clear HROW hn4 hn5 hn6 hn7 hr4 hr5 hr6 hr7 D4 D5 D6 D7 Dr0 Cr0 Or0 C4 C5 C6 C7 O4 O5 O6 O7 a4 a5 a6 a7 y7 y8 y9 y10 y11 y12 y13 y14 y15 y16 y17 hw0 BY HK l1 l2 l3 l4 l5 ld1 ld2 ld3 ld4 ld5 l4_1 l4_2 l4_3 l4_4 l4_5 l5_1 l5_2 l5_3 l5_4 l5_5 l6_1 l6_2 l6_3 l6_4 l6_5 l7_1 l7_2 l7_3 l7_4 l7_5 hz7 hz0 HKW hs1 hs3 hs4 hs5
  clear b1 b2 b3 b4 b5
  obtain ⟨b0, hb0⟩ : ∃ b0, b0 = (bad || (numP x1.data.toList).isNone || (numP x3.data.toList).isNone || (numP x4.data.toList).isNone || (lstP x5.data.toList).isNone) := ⟨_, rfl⟩
  have HB0 := hid hb0
  rw [← hb0] at D0
  clear hb0
  obtain ⟨P, hP⟩ : ∃ P, P = (ws.drop 6).map (·.data.toList) := ⟨_, rfl⟩
  have HP := hid hP
  have hPl : n - 6 = P.length := by rw [hP, List.length_map, List.length_drop, HW.out.len]
  clear hP
  have HI0 : Hid (LpI R (w.heap.size + 1) w0.heap.size b0 P n4 x2 n5 n6 zs A7 c7 [] none 0 w0 w0) := ⟨CY, World.ownsRow_nil _ _ _ _, by
    show w0.heap[R]? = some (.cells #[.bool (b0 || false)] _ _)
    rw [Bool.or_false]; exact D0.out.1, Tur.refl _ _, fun m hm => (by rw [List.length_nil, List.take_zero] at hm; injection hm with hm; rw [← hm]; rfl), Nat.zero_le _⟩
  have HOY := hid OY
  clear CY OY
  have i1 : ((n : Int) - 6) = ((P.length : Nat) : Int) := by omega
  have HPS : Hid (P.length + 6 = n ∧ n ≤ 100000) := by unfold Hid; omega
  rw [hPl]
  clear hPl
  go_loopw [60] (fun iv wr => ∃ (vs : List V) (A : Option Addr) (cp : Nat), iv = .int .i64 vs.length ∧ Hid (LpI R (w.heap.size + 1) w0.heap.size b0 P n4 x2 n5 n6 zs A7 c7 vs A cp w0 wr)) (fun iv _ => P.length - (intOf iv).toNat)
  case atStart => exact ⟨[], none, 0, rfl, HI0⟩
  case round =>
    clear HI0
    obtain ⟨vs, A, cp, rfl, HI⟩ := hrel
    have hk1 : w.heap.size + 1 ≠ R := by omega
    have hk0 : w.heap.size ≠ R := by omega
    by_cases hin : vs.length < P.length
    · have HIN := hid hin
      have hii : ((vs.length : Nat) : Int) < ((P.length : Nat) : Int) := by omega
      obtain ⟨y, hy⟩ : ∃ y, ws[6 + vs.length]? = some y := ⟨_, List.getElem?_eq_getElem (by have := HW.out.len; have := HPS.out; omega)⟩
      have HXP : Hid (P[vs.length]? = some y.data.toList) := by
        unfold Hid
        rw [HP.out, List.getElem?_map, List.getElem?_drop, hy]; rfl
      have hys : y.size ≤ 100000 := HW.out.small y (List.mem_of_getElem? hy)
      have hbl := HW.out.lt
      have hbR := HW.out.ne
      have c0 : wr.cell? ⟨b, off + 6 + vs.length, none⟩ = some (.string y) := by
        have h1 := D0.out.cell (HW.out.cell _ y hy) hbR hbl
        rw [← Nat.add_assoc] at h1
        rw [← h1]
        have h2 := HI.out.tur.kept b (Nat.lt_of_lt_of_le hbl D0.out.size) (by rintro (q | q) <;> omega)
        unfold World.cell?
        rw [h2]
      have HRD : Hid (wr.drew.heap[R]? = some (.cells #[.bool (b0 || (allP vecP (P.take vs.length)).isNone)] 63 (0, 0))) := HI.out.rd
      have y12 : wr.cell? ⟨w.heap.size + 1, 12, none⟩ = some (.slice A vs.length cp) := (cmB_cell HI.out.blk 12).trans (cm_at12 _ _)
      have a12 := blk_free HI.out.blk
      have HMS : Hid (P.length - (vs.length + 1) < P.length - vs.length) := by unfold Hid; omega
      have hn0 : vs.length + 1 ≤ 1000000 := by have := HPS.out; omega
      have hR0 : R < w0.heap.size := by omega
      clear hin hy hbl hbR
      go_upto_region 10 with fail
      go_region_law (first | (go_simp; go_at_call_of 55 (Value.string y); refine (vector4 HRD.out hys).mono ?_; rintro e w3 ⟨va, vb, vc, vd, rfl, hv3, hr3⟩; obtain ⟨g', cap', w5, hg3, HAPP, ⟨y3, a3⟩, ⟨y5, a5⟩, HI5⟩ := lp_step HI.out HXP.out hv3 hr3 hgl hlr hk1 hR0 hn0; clear hv3 hr3) | (refine step_append_eq rfl (.tmp 66) (.tmp 70) 28 rfl (v := .slice A vs.length cp) (y := .slice (some ⟨w3.heap.size, 0, none⟩) 1 1) (by simp [Act.eval]) (by simp [Act.eval]) HAPP.out ?_))
      all_goals
        clear hg3 y12 a12 y3 a3 y5 a5 c0
        go_wp2_with fail
        go_roundw
        case rel => exact ⟨vs ++ [(va, vb, vc, vd)], _, _, by rw [List.length_append]; go_num, HI5.out⟩
        case measure => have := HMS.out; simp [intOf]; omega
    · obtain hle : vs.length = P.length := by have := HI.out.le; omega
      have hii : ¬ ((vs.length : Nat) : Int) < ((P.length : Nat) : Int) := by omega
      have HLE := hid hle
      clear hin hle
      have CY := HI.out.blk
      have OY : wr.heap[w.heap.size]? = some (.cells (cmB cm0 s0) 33 (0, 0)) := (HI.out.tur.kept _ (lt_of_at HOY.out) (by rintro (q | q) <;> omega)).trans HOY.out
      have BY : Below w.heap.size wr (wr.setRow w.heap.size (cmB (cj n4 x2 n5 n6 zs vs) (sj A7 c7 A cp))) := (by repeat (first | with_reducible assumption | with_reducible exact Below.refl _ _ | with_reducible refine Below.drew ?_ | with_reducible refine below_drewN ?_ _ | with_reducible refine Below.alloc ?_ (by first | omega | (simp; done) | (simp; omega)) _ | with_reducible refine Below.setCell ?_ (by first | omega | (simp; done) | (simp; omega)) _ | with_reducible refine below_setRow ?_ (by first | omega | (simp; done) | (simp; omega)) _))
      have FIN : Hid (ComQ R bad 2 ws w (.returned (.agg (cmB (cj n4 x2 n5 n6 zs vs) (sj A7 c7 A cp)))) (wr.setRow w.heap.size (cmB (cj n4 x2 n5 n6 zs vs) (sj A7 c7 A cp)))) := by
        have hs := lp_done HI.out HLE.out D0.out hlr hgl hk1
        refine comQ_ok2 (lp_far HI.out.row HROW0.out hlr) ?_ ?_
        · have hD := hs.on hlr BY
          rw [HB0.out, HP.out] at hD
          clear hs BY OY CY
          obtain ⟨rfl, rfl, rfl, rfl, rfl⟩ := HX.out
          rw [cmdP_2]
          revert hD
          cases numP (wl ws 1) <;> cases numP (wl ws 3) <;> cases numP (wl ws 4) <;> cases lstP (wl ws 5) <;> cases allP vecP ((ws.drop 6).map (·.data.toList)) <;> intro hD <;> simpa using hD
        · intro c hc
          have hsl : Sl4 (wr.setRow w.heap.size (cmB (cj n4 x2 n5 n6 zs vs) (sj A7 c7 A cp))) (cj n4 x2 n5 n6 zs vs).job (sj A7 c7 A cp) := lp_sl HI.out HROW0.out hlr hk1
          obtain ⟨N1, N2, N3, N4⟩ := HNM.out
          have hv := HI.out.is
          rw [HLE.out, List.take_length] at hv
          rw [HP.out] at hv
          clear hs BY OY CY
          obtain ⟨rfl, rfl, rfl, rfl, rfl⟩ := HX.out
          refine ⟨?_, hsl⟩
          clear hsl
          rw [cmdP_2] at hc
          cases q1 : numP (wl ws 1) with
          | none => rw [q1] at hc; cases hc
          | some m1 =>
            cases q3 : numP (wl ws 3) with
            | none => rw [q1, q3] at hc; cases hc
            | some m3 =>
              cases q4 : numP (wl ws 4) with
              | none => rw [q1, q3, q4] at hc; cases hc
              | some m4 =>
                cases q5 : lstP (wl ws 5) with
                | none => rw [q1, q3, q4, q5] at hc; cases hc
                | some m5 =>
                  cases q6 : allP vecP ((ws.drop 6).map (·.data.toList)) with
                  | none => rw [q1, q3, q4, q5, q6] at hc; cases hc
                  | some m6 =>
                    rw [q1, q3, q4, q5, q6] at hc
                    replace hc := Option.some.inj hc
                    rw [← hc, N1 m1 q1, N2 m3 q3, N3 m4 q4, N4 m5 q5, hv m6 q6]
                    rfl
      clear HI HROW0 HNM HX HOY D0
      go_wp2_with (first | (refine wpList_load_row rfl 33 (.tmp 7) rfl (w.heap.size + 1) (by simp [Act.eval, Act.put]) _ _ _ _ CY Tryz.underlying33 rfl (infoC' _ _) ?_) | (refine wpList_store_row rfl 33 (.tmp 6) (.tmp 139) rfl w.heap.size (cmB (cj n4 x2 n5 n6 zs vs) (sj A7 c7 A cp)) (by simp [Act.eval, Act.put]) (by simp [Act.eval, Act.put]) _ _ OY (infoC' _ _) (cmB_sizes _ _ _ _) (cmB_ones _ _) ?_))
      refine ret_row1 rfl w.heap.size (cmB (cj n4 x2 n5 n6 zs vs) (sj A7 c7 A cp)) 33 _ rfl Tryz.underlying33 rfl (infoC' _ _) rfl ⟨_, setRow_at OY _, rfl⟩ FIN.out
end
end Go.Proofs.YtidcbcljeofooaaGreatDoor
