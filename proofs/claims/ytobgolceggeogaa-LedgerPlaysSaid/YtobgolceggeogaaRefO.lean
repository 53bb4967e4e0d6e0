/- Contract of the reference's Open of chapter 13. -/
import Derived.Test.YtobgolceggeogaaRefA
import Derived.BigRegion
import Derived.RegionTactic
import Derived.Deep.RegionLaw
import Derived.Maps.Range
namespace Go.Proofs.Ytobgolceggeogaa
open Go.RowKit
/-- Each block that is no block of the reference's ledger is as it was. -/
def notRef : Obj → Prop
  | .cells _ t _ => t ≠ 39 ∧ t ≠ 73
  | _ => True
def KeptT (w w' : World) : Prop := ∀ (k : Nat) (o : Obj), w.heap[k]? = some o → notRef o → w'.heap[k]? = some o
theorem KeptT.trans {a b c : World} (h : KeptT a b) (k : KeptT b c) : KeptT a c := fun i o ho hn => k i o (h i o ho hn) hn
theorem keptT_below {w w' : World} (h : Below w.heap.size w w') : KeptT w w' := fun k o ho _ => (h.block k (lt_of_at ho)).trans ho
theorem keptT_set {w : World} {g i : Nat} {cs : Array Value} {t : TypeId} {f : Nat × Nat} (hg : w.heap[g]? = some (.cells cs t f)) (ht : t = 39 ∨ t = 73) (u : Value) : KeptT w (w.setCell ⟨g, i, none⟩ u) := fun k o ho hn => by
  rw [heap_setCell_other w ⟨g, i, none⟩ k u (fun e => by
    have e : k = g := e
    subst e
    rw [hg] at ho
    cases ho
    rcases ht with rfl | rfl
    · exact hn.1 rfl
    · exact hn.2 rfl)]
  exact ho
/-- What the reference's calls leave. -/
def RefPost (B : Nat) (w w' : World) (R : Nat) (l : List RA) : Prop := (∃ v, RefL B w' R v l) ∧ Below B w w' ∧ KeptT w w'
theorem RefPost.same {B R : Nat} {w w' : World} {v : Value} {l : List RA} (h : RefL B w R v l) (hB : B ≤ w.heap.size) (hb : Below w.heap.size w w') : RefPost B w w' R l := ⟨⟨v, h.below hb⟩, hb.mono hB, keptT_below hb⟩
/-- Behind a store of one cell into the row. -/
theorem row_set {B R g cap j c : Nat} {w : World} {l : List RA} (h : RefL B w R (.slice (some ⟨g, 0, none⟩) l.length cap) l) (hgR : g ≠ R) (hj : j < l.length) (hc : c < 9) (x : RA) (u : Value) (hset : cellsA x = (cellsA l[j]).set c u) :
    RefL B (w.setCell ⟨g, j * 9 + c, none⟩ u) R (.slice (some ⟨g, 0, none⟩) (l.set j x).length cap) (l.set j x) ∧ KeptT w (w.setCell ⟨g, j * 9 + c, none⟩ u) ∧ Below B w (w.setCell ⟨g, j * 9 + c, none⟩ u) := by
  obtain ⟨h0, h1, h2⟩ := h
  have hst := (h2.stored (j * 9 + c) u)
  have hg := h2.lt g rfl
  have hu : (cellsA x)[c]? = some u := by rw [hset, List.getElem?_set_self (by simp [cellsA]; omega)]
  have hx : ∀ c', c' < 9 → c' ≠ c → (cellsA x)[c']? = (cellsA l[j])[c']? := fun c' _ hne => by rw [hset, List.getElem?_set_ne (Ne.symm hne)]
  obtain ⟨-, ⟨h3, -⟩ | ⟨g', cap', cur, h3, -, hh, -⟩⟩ := h2
  · cases h3
  · cases h3
    rw [List.length_set]
    refine ⟨⟨h0, ?_, ?_⟩, keptT_set hh (.inr rfl) u, below_grown hst.2 (Nat.le_of_lt (Nat.lt_of_le_of_lt hg.1 hg.2)) (fun k e => by cases e; exact hg.1)⟩
    · rw [heap_setCell_other w ⟨g, j * 9 + c, none⟩ R u (fun e => hgR e.symm)]; exact h1
    · rw [List.length_set, ← flatA_set l j hj x c hc u hu hx]
      exact hst.1
/-- The four cells of a limit. -/
theorem row_limit {B R g cap j : Nat} {w : World} {l : List RA} (h : RefL B w R (.slice (some ⟨g, 0, none⟩) l.length cap) l) (hgR : g ≠ R) (hj : j < l.length) (a b c d : Int) :
    RefL B ((((w.setCell ⟨g, j * 9 + 1, none⟩ (.int .i64 a)).setCell ⟨g, j * 9 + 2, none⟩ (.int .i64 b)).setCell ⟨g, j * 9 + 3, none⟩ (.int .i64 c)).setCell ⟨g, j * 9 + 4, none⟩ (.int .i64 d)) R (.slice (some ⟨g, 0, none⟩) (l.set j (l[j].1, (a, b, c, d), l[j].2.2)).length cap) (l.set j (l[j].1, (a, b, c, d), l[j].2.2)) ∧
      KeptT w ((((w.setCell ⟨g, j * 9 + 1, none⟩ (.int .i64 a)).setCell ⟨g, j * 9 + 2, none⟩ (.int .i64 b)).setCell ⟨g, j * 9 + 3, none⟩ (.int .i64 c)).setCell ⟨g, j * 9 + 4, none⟩ (.int .i64 d)) ∧
      Below B w ((((w.setCell ⟨g, j * 9 + 1, none⟩ (.int .i64 a)).setCell ⟨g, j * 9 + 2, none⟩ (.int .i64 b)).setCell ⟨g, j * 9 + 3, none⟩ (.int .i64 c)).setCell ⟨g, j * 9 + 4, none⟩ (.int .i64 d)) := by
  obtain ⟨r1, k1, b1⟩ := row_set h hgR hj (c := 1) (by omega) (l[j].1, (a, l[j].2.1.2), l[j].2.2) (.int .i64 a) rfl
  obtain ⟨r2, k2, b2⟩ := row_set r1 hgR (by rw [List.length_set]; exact hj) (c := 2) (by omega) (l[j].1, (a, b, l[j].2.1.2.2), l[j].2.2) (.int .i64 b) (by rw [List.getElem_set_self]; rfl)
  obtain ⟨r3, k3, b3⟩ := row_set r2 hgR (by rw [List.length_set, List.length_set]; exact hj) (c := 3) (by omega) (l[j].1, (a, b, c, l[j].2.1.2.2.2), l[j].2.2) (.int .i64 c) (by rw [List.getElem_set_self]; rfl)
  obtain ⟨r4, k4, b4⟩ := row_set r3 hgR (by rw [List.length_set, List.length_set, List.length_set]; exact hj) (c := 4) (by omega) (l[j].1, (a, b, c, d), l[j].2.2) (.int .i64 d) (by rw [List.getElem_set_self]; rfl)
  simp only [List.set_set] at r4
  exact ⟨r4, ((k1.trans k2).trans k3).trans k4, ((b1.trans b2).trans b3).trans b4⟩
set_option maxRecDepth 20000 in
set_option maxHeartbeats 2000000 in
theorem ropen_form (B R : Nat) (v : Value) (l : List RA) (s : ByteArray) (a b c d : Int) (w : World) (hB : B ≤ w.heap.size) (hR : RefL B w R v l) (hv : okV (a, b, c, d) = false) :
    Calls Try.prog 14 #[.pointer (some ⟨R, 0, none⟩), .string s, .agg #[.int .i64 a, .int .i64 b, .int .i64 c, .int .i64 d]] w fun e w' => e = .returned (.int .i64 4) ∧ RefPost B w w' R l := by
  have hF : ∀ W, Calls Try.prog 22 #[.agg #[.int .i64 a, .int .i64 b, .int .i64 c, .int .i64 d]] W fun e w' => e = .returned (.bool false) ∧ Below W.heap.size W w' := fun W => by have h := rformed_any a b c d W; rw [show formedB a b c d = false from hv] at h; exact h
  have HR := hid hR
  clear hR
  go_enter Try.func14, Try.ntmps14
  go_wp2_with fail
  refine (hF _).mono ?_
  rintro e w1 ⟨rfl, hb1⟩
  go_wp2
  go_ret
  exact ⟨rfl, RefPost.same HR.out hB (Below.trans (by repeat (first | with_reducible assumption | with_reducible exact Below.refl _ _ | with_reducible refine Below.drew ?_ | with_reducible refine below_drewN ?_ _ | with_reducible refine below_alloc ?_ _ | with_reducible refine Below.alloc ?_ (by first | omega | (simp; done) | (simp; omega)) _ | with_reducible refine Below.setCell ?_ (by first | omega | (simp; done) | (simp; omega)) _ | with_reducible refine below_setRow ?_ (by first | omega | (simp; done) | (simp; omega)) _)) (hb1.mono (by first | omega | (simp; done) | (simp; omega))))⟩
set_option maxRecDepth 20000 in
set_option maxHeartbeats 4000000 in
theorem ropen_full (B R : Nat) (v : Value) (l : List RA) (s : ByteArray) (a b c d : Int) (w : World) (hB : B ≤ w.heap.size) (hR : RefL B w R v l) (hm : l.length ≤ 100000) (hv : okV (a, b, c, d) = true) (hk : findI l s = -1) (hn : 64 ≤ l.length) :
    Calls Try.prog 14 #[.pointer (some ⟨R, 0, none⟩), .string s, .agg #[.int .i64 a, .int .i64 b, .int .i64 c, .int .i64 d]] w fun e w' => e = .returned (.int .i64 6) ∧ RefPost B w w' R l := by
  have hF : ∀ W, Calls Try.prog 22 #[.agg #[.int .i64 a, .int .i64 b, .int .i64 c, .int .i64 d]] W fun e w' => e = .returned (.bool true) ∧ Below W.heap.size W w' := fun W => by have h := rformed_any a b c d W; rw [show formedB a b c d = true from hv] at h; exact h
  have HR := hid hR
  have hlR := lt_of_at hR.2.1
  clear hR
  go_enter Try.func14, Try.ntmps14
  go_wp2_with fail
  refine (hF _).mono ?_
  rintro e w1 ⟨rfl, hb1⟩
  have hs1 := hb1.size
  simp only [World.size_alloc] at hs1
  have B1 : Below w.heap.size w w1 := Below.trans (by repeat (first | with_reducible assumption | with_reducible exact Below.refl _ _ | with_reducible refine Below.drew ?_ | with_reducible refine below_drewN ?_ _ | with_reducible refine below_alloc ?_ _ | with_reducible refine Below.alloc ?_ (by first | omega | (simp; done) | (simp; omega)) _ | with_reducible refine Below.setCell ?_ (by first | omega | (simp; done) | (simp; omega)) _ | with_reducible refine below_setRow ?_ (by first | omega | (simp; done) | (simp; omega)) _)) (hb1.mono (by first | omega | (simp; done) | (simp; omega)))
  have X1 := below_at hb1 (n := w.heap.size) (by first | omega | (simp; done) | (simp; omega)) (by (repeat (first | (with_reducible assumption) | (with_reducible exact alloc_at _ _) | ((with_reducible apply alloc_at'); (simp; done)) | (with_reducible apply alloc_at_lt) | (with_reducible apply heap_drew_at) | (with_reducible apply heap_drewN_at) | (with_reducible apply heap_setCell_same) | ((with_reducible apply heap_set_ne); (first | omega | (dsimp only; omega) | (simp; done) | (simp; omega))) | (with_reducible apply setRow_at) | ((with_reducible apply setRow_ne); (first | omega | (dsimp only; omega) | (simp; done) | (simp; omega))))))
  clear hb1
  go_wp2_with fail
  refine (rfind_any B R v l s w1 (HR.out.below B1) hm).mono ?_
  rintro e w2 ⟨rfl, hb2⟩
  have B2 : Below w.heap.size w w2 := B1.trans (hb2.mono B1.size)
  have hs2 := B2.size
  have X2 : w2.heap[w.heap.size]? = some (.cells #[.int .i64 a, .int .i64 b, .int .i64 c, .int .i64 d] 29 (0, 0)) := below_at hb2 (by omega) X1
  have hl2 := lt_of_at X2
  have R2 := HR.out.below B2
  clear hb2 X1
  rw [hk]
  have r0 : w2.cell? ⟨R, 0, none⟩ = some v := (blk_cell R2.2.1 0).trans rfl
  obtain ⟨g, cap, rfl, -⟩ := R2.row (by omega)
  have hn' : (64 : Int) ≤ l.length := by omega
  have hlR2 := lt_of_at R2.2.1
  clear hn R2
  go_wp2
  go_ret
  exact ⟨rfl, RefPost.same HR.out hB (by repeat (first | with_reducible assumption | with_reducible exact Below.refl _ _ | with_reducible refine Below.drew ?_ | with_reducible refine below_drewN ?_ _ | with_reducible refine below_alloc ?_ _ | with_reducible refine Below.alloc ?_ (by first | omega | (simp; done) | (simp; omega)) _ | with_reducible refine Below.setCell ?_ (by first | omega | (simp; done) | (simp; omega)) _ | with_reducible refine below_setRow ?_ (by first | omega | (simp; done) | (simp; omega)) _))⟩
set_option maxRecDepth 20000 in
set_option maxHeartbeats 4000000 in
theorem ropen_old (B R : Nat) (v : Value) (l : List RA) (s : ByteArray) (a b c d : Int) (w : World) (hB : B ≤ w.heap.size) (hR : RefL B w R v l) (hm : l.length ≤ 100000) (hv : okV (a, b, c, d) = true) (k : Nat) (hk : findI l s = k) (hkl : k < l.length) :
    Calls Try.prog 14 #[.pointer (some ⟨R, 0, none⟩), .string s, .agg #[.int .i64 a, .int .i64 b, .int .i64 c, .int .i64 d]] w fun e w' => e = .returned (.int .i64 0) ∧ RefPost B w w' R (l.set k (l[k].1, (a, b, c, d), l[k].2.2)) := by
  have hF : ∀ W, Calls Try.prog 22 #[.agg #[.int .i64 a, .int .i64 b, .int .i64 c, .int .i64 d]] W fun e w' => e = .returned (.bool true) ∧ Below W.heap.size W w' := fun W => by have h := rformed_any a b c d W; rw [show formedB a b c d = true from hv] at h; exact h
  have HR := hid hR
  have hlR := lt_of_at hR.2.1
  clear hR
  go_enter Try.func14, Try.ntmps14
  go_wp2_with fail
  refine (hF _).mono ?_
  rintro e w1 ⟨rfl, hb1⟩
  have hs1 := hb1.size
  simp only [World.size_alloc] at hs1
  have B1 : Below w.heap.size w w1 := Below.trans (by repeat (first | with_reducible assumption | with_reducible exact Below.refl _ _ | with_reducible refine Below.drew ?_ | with_reducible refine below_drewN ?_ _ | with_reducible refine below_alloc ?_ _ | with_reducible refine Below.alloc ?_ (by first | omega | (simp; done) | (simp; omega)) _ | with_reducible refine Below.setCell ?_ (by first | omega | (simp; done) | (simp; omega)) _ | with_reducible refine below_setRow ?_ (by first | omega | (simp; done) | (simp; omega)) _)) (hb1.mono (by first | omega | (simp; done) | (simp; omega)))
  have X1 := below_at hb1 (n := w.heap.size) (by first | omega | (simp; done) | (simp; omega)) (by (repeat (first | (with_reducible assumption) | (with_reducible exact alloc_at _ _) | ((with_reducible apply alloc_at'); (simp; done)) | (with_reducible apply alloc_at_lt) | (with_reducible apply heap_drew_at) | (with_reducible apply heap_drewN_at) | (with_reducible apply heap_setCell_same) | ((with_reducible apply heap_set_ne); (first | omega | (dsimp only; omega) | (simp; done) | (simp; omega))) | (with_reducible apply setRow_at) | ((with_reducible apply setRow_ne); (first | omega | (dsimp only; omega) | (simp; done) | (simp; omega))))))
  clear hb1
  go_wp2_with fail
  refine (rfind_any B R v l s w1 (HR.out.below B1) hm).mono ?_
  rintro e w2 ⟨rfl, hb2⟩
  have B2 : Below w.heap.size w w2 := B1.trans (hb2.mono B1.size)
  have hs2 := B2.size
  have X2 : w2.heap[w.heap.size]? = some (.cells #[.int .i64 a, .int .i64 b, .int .i64 c, .int .i64 d] 29 (0, 0)) := below_at hb2 (by omega) X1
  have hl2 := lt_of_at X2
  have R2 := HR.out.below B2
  clear hb2 X1
  rw [hk]
  have r0 : w2.cell? ⟨R, 0, none⟩ = some v := (blk_cell R2.2.1 0).trans rfl
  have hlR2 := lt_of_at R2.2.1
  obtain ⟨g, cap, rfl, hg, hgR, hgl, hgf, hcell⟩ := R2.row (by omega)
  obtain ⟨x0, x1, x2, x3, xf⟩ := four X2
  have c1 : w2.cell? ⟨g, k * 9 + 1, none⟩ = some (.int .i64 l[k].2.1.1) := (hcell k hkl 1 (by omega)).trans rfl
  have c2 : w2.cell? ⟨g, k * 9 + 2, none⟩ = some (.int .i64 l[k].2.1.2.1) := (hcell k hkl 2 (by omega)).trans rfl
  have c3 : w2.cell? ⟨g, k * 9 + 3, none⟩ = some (.int .i64 l[k].2.1.2.2.1) := (hcell k hkl 3 (by omega)).trans rfl
  have c4 : w2.cell? ⟨g, k * 9 + 4, none⟩ = some (.int .i64 l[k].2.1.2.2.2) := (hcell k hkl 4 (by omega)).trans rfl
  have HR2 := hid R2
  have hgw : g ≠ w.heap.size := fun e => by
    obtain ⟨-, -, -, ⟨h3, -⟩ | ⟨g', cap', cur, h3, -, hh, -⟩⟩ := R2
    · cases h3
    · cases h3
      rw [e, X2] at hh
      injection hh with hh
      injection hh with _ h5
      exact absurd h5 (by decide)
  have HHC := hid hcell
  clear R2 hcell
  go_wp2
  go_region_held3 (fun w' => w'.cell? ⟨R, 0, none⟩ = some (.slice (some ⟨g, 0, none⟩) l.length cap) ∧ w'.cell? ⟨w.heap.size, 0, none⟩ = some (.int .i64 a) ∧ w'.cell? ⟨w.heap.size, 1, none⟩ = some (.int .i64 b) ∧ w'.cell? ⟨w.heap.size, 2, none⟩ = some (.int .i64 c) ∧ w'.cell? ⟨w.heap.size, 3, none⟩ = some (.int .i64 d)) (go_keep) (fail)
  all_goals
    go_wp2
    go_ret
    obtain ⟨r, kt, bl⟩ := row_limit HR2.out hgR hkl a b c d
    exact ⟨rfl, ⟨_, r.below ((Below.refl _ _).drew)⟩, ((Below.mono B2 hB).trans bl).drew, (keptT_below B2).trans (kt.trans (keptT_below ((Below.refl _ _).drew)))⟩
end Go.Proofs.Ytobgolceggeogaa
