/- Contract of the reference's Open of chapter 13 at a new name: it is put into its place. -/
import Derived.Test.YtobgolceggeogaaRefO
import Derived.IntWalk
namespace Go.Proofs.Ytobgolceggeogaa
open Go.RowKit
theorem cell_set_ne {w : World} {p q : Addr} {x v : Value} (e : p ≠ q) (h : w.cell? q = some v) : (w.setCell p x).cell? q = some v := (World.cell?_setCell_other w p q x e).trans h
theorem cell_drew {w : World} {q : Addr} {v : Value} (h : w.cell? q = some v) : w.drew.cell? q = some v := h
theorem take_move {l : List RA} {j : Nat} (h : j < l.length) : l.take (j + 1) ++ l[j] :: l.drop (j + 1) = l.take j ++ l[j] :: l.drop j := by
  have h1 : l.take (j + 1) = l.take j ++ [l[j]] := by rw [List.take_add_one, List.getElem?_eq_getElem h]; rfl
  have h2 : l.drop j = l[j] :: l.drop (j + 1) := List.drop_eq_getElem_cons h
  rw [h1, h2, List.append_assoc]
  rfl
theorem adr_neR {g R o o' : Nat} (h : g ≠ R) : (⟨g, o, none⟩ : Addr) ≠ ⟨R, o', none⟩ := by intro e; injection e with e1 _; exact h e1
theorem adr_ne (g j c c' : Nat) (h : c < 9) : (⟨g, (j + 1) * 9 + c', none⟩ : Addr) ≠ ⟨g, j * 9 + c, none⟩ := by intro e; injection e with _ e2; omega
theorem adr_ne1 (g j c : Nat) (h : c < 9) : (⟨g, (j + 1) * 9, none⟩ : Addr) ≠ ⟨g, j * 9 + c, none⟩ := by intro e; injection e with _ e2; omega
theorem adr_ne2 (g j c' : Nat) : (⟨g, (j + 1) * 9 + c', none⟩ : Addr) ≠ ⟨g, j * 9, none⟩ := by intro e; injection e with _ e2; omega
theorem adr_ne3 (g j : Nat) : (⟨g, (j + 1) * 9, none⟩ : Addr) ≠ ⟨g, j * 9, none⟩ := by intro e; injection e with _ e2; omega
def gtS (a b : ByteArray) : Bool := !(Op.bytesLess a.toList b.toList || a.toList == b.toList)
theorem infoAc : (Try.prog.info? 73).map (fun i => (i.zero, i.size, i.bytes)) = some (some (.agg #[.string ByteArray.empty, .int .i64 0, .int .i64 0, .int .i64 0, .int .i64 0, .int .i64 0, .int .i64 0, .int .i64 0, .int .i64 0]), 9, 80) := by kernel_rfl
theorem step_append_eq {P : Program} {w : World} {ops : Array Oper} {o : Oper} {a : Act} {K : Act → World → Prop} {Q : Exit → Act → World → Prop} {E : Prop} {v' : Value} {w' : World} (hgd : o.guard = none) (s x : Operand) (t : TypeId)
    (ho : o.op = .call { callee := .builtin .append, args := #[s, x], argTypes := #[t, t] }) {v y : Value} (hs : a.eval s = v) (hx : a.eval x = y) (hr : (Builtin.append_ #[t, t] o.type #[v, y]).run P w = .ok v' w')
    (h : K (a.put o.dst v') w') : if Region.wanted o (yielded ops a.tmps) = true then Oper.wp P o a w K Q else E := by
  have hw : Region.wanted o (yielded ops a.tmps) = true := by simp [Region.wanted, hgd]
  rw [if_pos hw]
  unfold Oper.wp execOp
  simp only [ho, resolve, invoke, builtin, Sem.run_bind, Sem.run_pure, Result.andThen_ok, List.map_toArray, List.map_cons, List.map_nil, hs, hx, hr]
  exact h
/-- The row's slice, whether nil or not. -/
theorem RefL.slice {B R : Nat} {w : World} {v : Value} {l : List RA} (h : RefL B w R v l) : ∃ A cap, v = .slice A l.length cap := by
  obtain ⟨-, -, -, ⟨rfl, h0⟩ | ⟨g, cap, cur, rfl, _⟩⟩ := h
  · exact ⟨none, 0, by rw [h0]⟩
  · exact ⟨_, cap, rfl⟩
theorem RefL.own_ne {B R : Nat} {w : World} {v : Value} {l : List RA} (h : RefL B w R v l) : v.ownBlock ≠ some R := by
  obtain ⟨-, h1, -, ⟨rfl, h0⟩ | ⟨g, cap, cur, rfl, -, hh, -⟩⟩ := h
  · intro e; cases e
  · intro e
    injection e with e
    simp only at e
    rw [e, h1] at hh
    injection hh with hh
    injection hh with _ h5
    exact absurd h5 (by decide)
/-- One account is appended. -/
theorem app_acct {B R : Nat} {W : World} {A : Option Addr} {n cap : Nat} {l : List RA} (hB : B ≤ W.heap.size) (hR : RefL B W R (.slice A n cap) l) (hn : n = l.length) (hm : n ≤ 1000) (ty : TypeId) (x : RA) (ad : Addr) (had : ∀ j u, (cellsA x)[j]? = some u → W.cell? (ad.add j) = some u) :
    ∃ g cap' w', (Builtin.append_ #[37, 37] ty #[.slice A n cap, .slice (some ad) 1 1]).run Try.prog W = .ok (.slice (some ⟨g, 0, none⟩) (n + 1) cap') w' ∧
      w'.ownsRow B 73 9 (.slice (some ⟨g, 0, none⟩) (n + 1) cap') (n + 1) (flatA (l ++ [x])) ∧ W.grownBy w' (Value.slice A n cap).ownBlock ∧ ((Value.slice A n cap).ownBlock = some g ∨ g = W.heap.size) := by
  obtain ⟨i0, hi, hz0, hz1, hz2⟩ := info_parts infoAc
  subst hn
  obtain ⟨v', w', h1, h2, h3, -, h7⟩ := run_append_own_at (P := Try.prog) W B 37 ty 73 i0 _ 9 80 Try.underlying37 hi hz0 hz1 hz2 rfl (by omega) _ l.length (flatA l) hR.2.2 ad 1 1 (cellsA x) rfl had (cellsA_one x) (by unfold maxLen; omega) (by omega) hB
  have h2' : w'.ownsRow B 73 9 v' (l.length + 1) (flatA (l ++ [x])) := by rw [flatA_append]; simpa [flatA] using h2
  obtain ⟨h4, ⟨rfl, h0⟩ | ⟨g, cap', cur, rfl, rest⟩⟩ := h2'
  · omega
  · refine ⟨g, cap', w', h1, ⟨h4, .inr ⟨g, cap', cur, rfl, rest⟩⟩, h3, ?_⟩
    rcases h7 with h7 | h7
    · exact .inl h7.symm
    · right; injection h7
theorem keptT_grown {w w' : World} {r : Option Nat} (h : w.grownBy w' r) (hr : ∀ g, r = some g → ∃ cs f, w.heap[g]? = some (.cells cs 73 f)) : KeptT w w' := fun k o ho hn =>
  (h.block k (lt_of_at ho) (by
    intro e
    obtain ⟨cs, f, hc⟩ := hr k e.symm
    rw [hc] at ho
    cases ho
    exact hn.2 rfl)).trans ho
theorem RefL.own_cells {B R : Nat} {w : World} {v : Value} {l : List RA} (h : RefL B w R v l) : ∀ g, v.ownBlock = some g → ∃ cs f, w.heap[g]? = some (.cells cs 73 f) := by
  obtain ⟨-, -, -, ⟨rfl, h0⟩ | ⟨g, cap, cur, rfl, -, hh, -⟩⟩ := h
  · intro g e; cases e
  · intro g' e
    injection e with e
    simp only at e
    subst e
    exact ⟨_, _, hh⟩
theorem RefL.cells {B R g n cap : Nat} {w : World} {l : List RA} (h : RefL B w R (.slice (some ⟨g, 0, none⟩) n cap) l) (hn : 0 < l.length) :
    n = l.length ∧ g < w.heap.size ∧ (∀ i, w.frozen? ⟨g, i, none⟩ = false) ∧ ∀ j, (hj : j < l.length) → ∀ c, c < 9 → w.cell? ⟨g, j * 9 + c, none⟩ = (cellsA l[j])[c]? := by
  obtain ⟨g', cap', e, -, -, h1, h2, h3⟩ := h.row hn
  injection e with e1 e2 e3
  injection e1 with e1
  injection e1 with e1
  subst e1
  exact ⟨e2, h1, h2, h3⟩
/-- A whole account is stored into its place. -/
theorem row_nine {B R g n cap j : Nat} {w : World} {l : List RA} (h : RefL B w R (.slice (some ⟨g, 0, none⟩) n cap) l) (hn : n = l.length) (hgR : g ≠ R) (hj : j < l.length) (x : RA) :
    RefL B ((((((((((w.setCell ⟨g, j * 9 + 0, none⟩ (.string x.1)).setCell ⟨g, j * 9 + 1, none⟩ (.int .i64 x.2.1.1)).setCell ⟨g, j * 9 + 2, none⟩ (.int .i64 x.2.1.2.1)).setCell ⟨g, j * 9 + 3, none⟩ (.int .i64 x.2.1.2.2.1)).setCell ⟨g, j * 9 + 4, none⟩ (.int .i64 x.2.1.2.2.2)).setCell ⟨g, j * 9 + 5, none⟩ (.int .i64 x.2.2.1)).setCell ⟨g, j * 9 + 6, none⟩ (.int .i64 x.2.2.2.1)).setCell ⟨g, j * 9 + 7, none⟩ (.int .i64 x.2.2.2.2.1)).setCell ⟨g, j * 9 + 8, none⟩ (.int .i64 x.2.2.2.2.2))) R (.slice (some ⟨g, 0, none⟩) n cap) (l.set j x) ∧ KeptT w ((((((((((w.setCell ⟨g, j * 9 + 0, none⟩ (.string x.1)).setCell ⟨g, j * 9 + 1, none⟩ (.int .i64 x.2.1.1)).setCell ⟨g, j * 9 + 2, none⟩ (.int .i64 x.2.1.2.1)).setCell ⟨g, j * 9 + 3, none⟩ (.int .i64 x.2.1.2.2.1)).setCell ⟨g, j * 9 + 4, none⟩ (.int .i64 x.2.1.2.2.2)).setCell ⟨g, j * 9 + 5, none⟩ (.int .i64 x.2.2.1)).setCell ⟨g, j * 9 + 6, none⟩ (.int .i64 x.2.2.2.1)).setCell ⟨g, j * 9 + 7, none⟩ (.int .i64 x.2.2.2.2.1)).setCell ⟨g, j * 9 + 8, none⟩ (.int .i64 x.2.2.2.2.2))) ∧ Below B w ((((((((((w.setCell ⟨g, j * 9 + 0, none⟩ (.string x.1)).setCell ⟨g, j * 9 + 1, none⟩ (.int .i64 x.2.1.1)).setCell ⟨g, j * 9 + 2, none⟩ (.int .i64 x.2.1.2.1)).setCell ⟨g, j * 9 + 3, none⟩ (.int .i64 x.2.1.2.2.1)).setCell ⟨g, j * 9 + 4, none⟩ (.int .i64 x.2.1.2.2.2)).setCell ⟨g, j * 9 + 5, none⟩ (.int .i64 x.2.2.1)).setCell ⟨g, j * 9 + 6, none⟩ (.int .i64 x.2.2.2.1)).setCell ⟨g, j * 9 + 7, none⟩ (.int .i64 x.2.2.2.2.1)).setCell ⟨g, j * 9 + 8, none⟩ (.int .i64 x.2.2.2.2.2))) := by
  subst hn
  obtain ⟨r0, k0, b0⟩ := row_set h hgR hj (c := 0) (by omega) (x.1, l[j].2.1, l[j].2.2) (.string x.1) rfl
  obtain ⟨r1, k1, b1⟩ := row_set r0 hgR (by simp only [List.length_set]; exact hj) (c := 1) (by omega) (x.1, (x.2.1.1, l[j].2.1.2), l[j].2.2) (.int .i64 x.2.1.1) (by rw [List.getElem_set_self]; rfl)
  obtain ⟨r2, k2, b2⟩ := row_set r1 hgR (by simp only [List.length_set]; exact hj) (c := 2) (by omega) (x.1, (x.2.1.1, x.2.1.2.1, l[j].2.1.2.2), l[j].2.2) (.int .i64 x.2.1.2.1) (by rw [List.getElem_set_self]; rfl)
  obtain ⟨r3, k3, b3⟩ := row_set r2 hgR (by simp only [List.length_set]; exact hj) (c := 3) (by omega) (x.1, (x.2.1.1, x.2.1.2.1, x.2.1.2.2.1, l[j].2.1.2.2.2), l[j].2.2) (.int .i64 x.2.1.2.2.1) (by rw [List.getElem_set_self]; rfl)
  obtain ⟨r4, k4, b4⟩ := row_set r3 hgR (by simp only [List.length_set]; exact hj) (c := 4) (by omega) (x.1, x.2.1, l[j].2.2) (.int .i64 x.2.1.2.2.2) (by rw [List.getElem_set_self]; rfl)
  obtain ⟨r5, k5, b5⟩ := row_set r4 hgR (by simp only [List.length_set]; exact hj) (c := 5) (by omega) (x.1, x.2.1, (x.2.2.1, l[j].2.2.2)) (.int .i64 x.2.2.1) (by rw [List.getElem_set_self]; rfl)
  obtain ⟨r6, k6, b6⟩ := row_set r5 hgR (by simp only [List.length_set]; exact hj) (c := 6) (by omega) (x.1, x.2.1, (x.2.2.1, x.2.2.2.1, l[j].2.2.2.2)) (.int .i64 x.2.2.2.1) (by rw [List.getElem_set_self]; rfl)
  obtain ⟨r7, k7, b7⟩ := row_set r6 hgR (by simp only [List.length_set]; exact hj) (c := 7) (by omega) (x.1, x.2.1, (x.2.2.1, x.2.2.2.1, x.2.2.2.2.1, l[j].2.2.2.2.2)) (.int .i64 x.2.2.2.2.1) (by rw [List.getElem_set_self]; rfl)
  obtain ⟨r8, k8, b8⟩ := row_set r7 hgR (by simp only [List.length_set]; exact hj) (c := 8) (by omega) x (.int .i64 x.2.2.2.2.2) (by rw [List.getElem_set_self]; rfl)
  simp only [List.set_set, List.length_set] at r8
  exact ⟨r8, ((((((((k0.trans k1).trans k2).trans k3).trans k4).trans k5).trans k6).trans k7).trans k8), ((((((((b0.trans b1).trans b2).trans b3).trans b4).trans b5).trans b6).trans b7).trans b8)⟩
set_option maxRecDepth 20000 in
set_option maxHeartbeats 8000000 in
theorem ropen_new (B R : Nat) (v : Value) (l : List RA) (s : ByteArray) (a b c d : Int) (w : World) (hB : B ≤ w.heap.size) (hR : RefL B w R v l) (hm : l.length ≤ 100000) (hv : okV (a, b, c, d) = true) (hk : findI l s = -1) (hn : l.length < 64) :
    Calls Try.prog 14 #[.pointer (some ⟨R, 0, none⟩), .string s, .agg #[.int .i64 a, .int .i64 b, .int .i64 c, .int .i64 d]] w fun e w' => e = .returned (.int .i64 0) ∧ ∃ k, k ≤ l.length ∧ RefPost B w w' R (l.take k ++ (s, (a, b, c, d), zeroV) :: l.drop k) := by
  have hF : ∀ W, Calls Try.prog 22 #[.agg #[.int .i64 a, .int .i64 b, .int .i64 c, .int .i64 d]] W fun e w' => e = .returned (.bool true) ∧ Below W.heap.size W w' := fun W => by have h := rformed_any a b c d W; rw [show formedB a b c d = true from hv] at h; exact h
  have HR := hid hR
  have hlR := lt_of_at hR.2.1
  clear hR
  go_enter Try.func14, Try.ntmps14
  go_wp2_with fail
  refine (hF _).mono ?_
  rintro e w1 ⟨rfl, hb1⟩
  have hs1 := hb1.size
  simp only [World.size_alloc] at hs1
  have B1 : Below w.heap.size w w1 := Below.trans (by repeat (first | with_reducible assumption | with_reducible exact Below.refl _ _ | with_reducible refine Below.drew ?_ | with_reducible refine below_drewN ?_ _ | with_reducible refine below_alloc ?_ _ | with_reducible refine Below.alloc ?_ (by first | omega | (simp; done) | (simp; omega)) _ | with_reducible refine Below.setCell ?_ (by first | omega | (simp; done) | (simp; omega)) _ | with_reducible refine below_setRow ?_ (by first | omega | (simp; done) | (simp; omega)) _)) (hb1.mono (by first | omega | (simp; done) | (simp; omega)))
  have X1 := below_at hb1 (n := w.heap.size) (by first | omega | (simp; done) | (simp; omega)) (by (repeat (first | (with_reducible assumption) | (with_reducible exact alloc_at _ _) | ((with_reducible apply alloc_at'); (simp; done)) | (with_reducible apply alloc_at_lt) | (with_reducible apply heap_drew_at) | (with_reducible apply heap_drewN_at) | (with_reducible apply heap_setCell_same) | ((with_reducible apply heap_set_ne); (first | omega | (dsimp only; omega) | (simp; done) | (simp; omega))) | (with_reducible apply setRow_at) | ((with_reducible apply setRow_ne); (first | omega | (dsimp only; omega) | (simp; done) | (simp; omega))))))
  clear hb1
  go_wp2_with fail
  refine (rfind_any B R v l s w1 (HR.out.below B1) hm).mono ?_
  rintro e w2 ⟨rfl, hb2⟩
  have B2 : Below w.heap.size w w2 := B1.trans (hb2.mono B1.size)
  have hs2 := B2.size
  have X2 : w2.heap[w.heap.size]? = some (.cells #[.int .i64 a, .int .i64 b, .int .i64 c, .int .i64 d] 29 (0, 0)) := below_at hb2 (by omega) X1
  have hl2 := lt_of_at X2
  have R2 := HR.out.below B2
  clear hb2 X1
  rw [hk]
  have r0 : w2.cell? ⟨R, 0, none⟩ = some v := (blk_cell R2.2.1 0).trans rfl
  have hlR2 := lt_of_at R2.2.1
  have hown_lt := R2.2.2.lt
  obtain ⟨A, cap, rfl⟩ := R2.slice
  obtain ⟨x0, x1, x2, x3, xf⟩ := four X2
  have hn' : (l.length : Int) < 64 := by omega
  have hn2 : Hid (l.length ≤ 1000) := by unfold Hid; omega
  have HR2 := hid R2
  have hB2 : B ≤ w2.heap.size := by omega
  clear R2 hn
  go_upto_region 10 with fail
  refine wp_name ?_
  intro w3 hw3
  have A3 : w3.heap[w2.heap.size]? = some (.cells #[.string s, .int .i64 a, .int .i64 b, .int .i64 c, .int .i64 d, .int .i64 0, .int .i64 0, .int .i64 0, .int .i64 0] 73 (0, 0)) := by rw [hw3]; exact (by (repeat (first | (with_reducible assumption) | (with_reducible exact alloc_at _ _) | ((with_reducible apply alloc_at'); (simp; done)) | (with_reducible apply alloc_at_lt) | (with_reducible apply heap_drew_at) | (with_reducible apply heap_drewN_at) | (with_reducible apply heap_setCell_same) | ((with_reducible apply heap_set_ne); (first | omega | (dsimp only; omega) | (simp; done) | (simp; omega))) | (with_reducible apply setRow_at) | ((with_reducible apply setRow_ne); (first | omega | (dsimp only; omega) | (simp; done) | (simp; omega))))))
  have B3 : Below w2.heap.size w2 w3 := by rw [hw3]; exact (by repeat (first | with_reducible assumption | with_reducible exact Below.refl _ _ | with_reducible refine Below.drew ?_ | with_reducible refine below_drewN ?_ _ | with_reducible refine below_alloc ?_ _ | with_reducible refine Below.alloc ?_ (by first | omega | (simp; done) | (simp; omega)) _ | with_reducible refine Below.setCell ?_ (by first | omega | (simp; done) | (simp; omega)) _ | with_reducible refine below_setRow ?_ (by first | omega | (simp; done) | (simp; omega)) _))
  have s3 := lt_of_at A3
  have R3 := HR2.out.below B3
  have q0 : w3.cell? ⟨R, 0, none⟩ = some (.slice A l.length cap) := (blk_cell R3.2.1 0).trans rfl
  have qf := blk_free R3.2.1
  have hlR3 := lt_of_at R3.2.1
  clear hw3 r0 x0 x1 x2 x3 xf X2
  have a0 : w3.cell? ⟨w2.heap.size, 0, none⟩ = some (.string s) := (blk_cell A3 0).trans rfl
  have a1 : w3.cell? ⟨w2.heap.size, 1, none⟩ = some (.int .i64 a) := (blk_cell A3 1).trans rfl
  have a2 : w3.cell? ⟨w2.heap.size, 2, none⟩ = some (.int .i64 b) := (blk_cell A3 2).trans rfl
  have a3 : w3.cell? ⟨w2.heap.size, 3, none⟩ = some (.int .i64 c) := (blk_cell A3 3).trans rfl
  have a4 : w3.cell? ⟨w2.heap.size, 4, none⟩ = some (.int .i64 d) := (blk_cell A3 4).trans rfl
  have a5 : w3.cell? ⟨w2.heap.size, 5, none⟩ = some (.int .i64 0) := (blk_cell A3 5).trans rfl
  have a6 : w3.cell? ⟨w2.heap.size, 6, none⟩ = some (.int .i64 0) := (blk_cell A3 6).trans rfl
  have a7 : w3.cell? ⟨w2.heap.size, 7, none⟩ = some (.int .i64 0) := (blk_cell A3 7).trans rfl
  have a8 : w3.cell? ⟨w2.heap.size, 8, none⟩ = some (.int .i64 0) := (blk_cell A3 8).trans rfl
  obtain ⟨g, cap', w4, happ, hown4, hG4, hgc⟩ := app_acct (W := (w3.alloc (.cells #[.string s, .int .i64 a, .int .i64 b, .int .i64 c, .int .i64 d, .int .i64 0, .int .i64 0, .int .i64 0, .int .i64 0] 73)).drew) (by have := B3.size; simp; omega) (R3.below ((below_alloc (Below.refl _ _) _).drew)) rfl hn2.out 37 (s, (a, b, c, d), zeroV) ⟨w3.heap.size, 0, none⟩ (World.news_of_block (heap_drew_at (alloc_at w3 _)))
  have R4 : w4.heap[R]? = some (.cells #[.slice A l.length cap] 39 (0, 0)) := (hG4.block R (by simp; omega) (fun e => R3.own_ne e.symm)).trans (heap_drew_at (alloc_at_lt R3.2.1 _))
  have A4 : w4.heap[w2.heap.size]? = some (.cells #[.string s, .int .i64 a, .int .i64 b, .int .i64 c, .int .i64 d, .int .i64 0, .int .i64 0, .int .i64 0, .int .i64 0] 73 (0, 0)) := (hG4.block _ (by simp; omega) (fun e => by have := (hown_lt _ e.symm).2; omega)).trans (heap_drew_at (alloc_at_lt A3 _))
  have t0 : w4.cell? ⟨R, 0, none⟩ = some (.slice A l.length cap) := (blk_cell R4 0).trans rfl
  have tf := blk_free R4
  have HAPP := hid happ
  have HA3 := hid A3
  clear happ
  go_cut [41] (fun s41 wx => s41 = .slice (some ⟨g, 0, none⟩) (l.length + 1) cap' ∧ wx = w4.setCell ⟨R, 0, none⟩ (.slice (some ⟨g, 0, none⟩) (l.length + 1) cap'))
  case first =>
    go_region_law (refine step_append_eq rfl (.tmp 38) (.tmp 40) 37 rfl (v := .slice A l.length cap) (y := .slice (some ⟨w3.heap.size, 0, none⟩) 1 1) (by simp [Act.eval, Act.put]) (by simp [Act.eval, Act.put]) HAPP.out ?_)
    all_goals
      go_wp2_with fail
      go_meet
      exact ⟨rfl, rfl⟩
  case rest =>
    obtain ⟨rfl, rfl⟩ := hcut
    obtain ⟨w5, hw5⟩ : ∃ w5 : World, w5 = w4.setCell ⟨R, 0, none⟩ (.slice (some ⟨g, 0, none⟩) (l.length + 1) cap') := ⟨_, rfl⟩
    rw [← hw5]
    have hgA : g ≠ w2.heap.size := by
      rcases hgc with h | h
      · have := (hown_lt g h).2; omega
      · intro e; simp at h; omega
    have hgR : g ≠ R := by
      rcases hgc with h | h
      · intro e; subst e; exact R3.own_ne h
      · intro e; simp at h; omega
    have hRA : w2.heap.size ≠ R := by omega
    have hgl4 : g < w4.heap.size := (hown4.lt g rfl).2
    have R5 : RefL B w5 R (.slice (some ⟨g, 0, none⟩) (l.length + 1) cap') (l.take l.length ++ (s, (a, b, c, d), zeroV) :: l.drop l.length) := by
      rw [List.take_length, List.drop_length, hw5]
      refine ⟨R3.1, heap_setCell_same _ _ _ _ _ _ R4, ?_⟩
      rw [show (l ++ [((s, (a, b, c, d), zeroV) : RA)]).length = l.length + 1 by simp]
      obtain ⟨h3, ⟨h4, -⟩ | ⟨g', cap2, cur, h4, h5, hh, rest⟩⟩ := hown4
      · cases h4
      · cases h4
        exact ⟨h3, .inr ⟨g, cap', cur, rfl, h5, (heap_setCell_other w4 ⟨R, 0, none⟩ g _ hgR).trans hh, rest⟩⟩
    have A5 : w5.heap[w2.heap.size]? = some (.cells #[.string s, .int .i64 a, .int .i64 b, .int .i64 c, .int .i64 d, .int .i64 0, .int .i64 0, .int .i64 0, .int .i64 0] 73 (0, 0)) := by rw [hw5]; exact (heap_setCell_other w4 ⟨R, 0, none⟩ _ _ hRA).trans A4
    have hsz3 := B3.size
    have B5 : Below B w w5 := by
      rw [hw5]
      exact Below.setCell (((((Below.mono B2 hB).trans (Below.mono B3 hB2)).alloc (by omega) _).drew).trans (below_grown hG4 (by simp; omega) (fun j e => (hown_lt j e).1))) R3.1 _
    have K5 : KeptT w w5 := by
      rw [hw5]
      exact ((((keptT_below B2).trans (keptT_below B3)).trans (keptT_below ((below_alloc (Below.refl _ _) _).drew))).trans (keptT_grown hG4 (fun gg e => (R3.below ((below_alloc (Below.refl _ _) _).drew)).own_cells gg e))).trans (keptT_set R4 (.inl rfl) _)
    have HR5 := hid R5
    have HA5 := hid A5
    have HB5 := hid B5
    have HK5 := hid K5
    have rc5 : w5.cell? ⟨R, 0, none⟩ = some (.slice (some ⟨g, 0, none⟩) (l.length + 1) cap') := (blk_cell R5.2.1 0).trans rfl
    have hlR5 := lt_of_at R5.2.1
    have hll : l.length ≤ 9223372036854775000 := by have := hn2.out; omega
    clear R5 A5 B5 K5 hw5 hown4 hG4 R4 A4 t0 tf HAPP HA3 q0 qf R3 HR2
    go_wp2
    clear rc5
    go_loopw [7] (fun i wr => ∃ (k : Nat) (y : RA), k ≤ l.length ∧ i = .int .i64 k ∧ Hid (RefL B wr R (.slice (some ⟨g, 0, none⟩) (l.length + 1) cap') (l.take k ++ y :: l.drop k)) ∧ Hid (wr.heap[w2.heap.size]? = some (.cells #[.string s, .int .i64 a, .int .i64 b, .int .i64 c, .int .i64 d, .int .i64 0, .int .i64 0, .int .i64 0, .int .i64 0] 73 (0, 0))) ∧ Hid (KeptT w wr) ∧ Hid (Below B w wr)) (fun i _ => (intOf i).toNat)
    case atStart => exact ⟨l.length, _, Nat.le_refl _, rfl, HR5, HA5, HK5, HB5⟩
    case round =>
      obtain ⟨k, y, hkl, rfl, RK, AK, KK, BK⟩ := hrel
      clear HR5 HA5 HK5 HB5
      rcases Nat.eq_zero_or_pos k with rfl | hk0
      · obtain ⟨-, hgl, hgf, hcell⟩ := RK.out.cells (by simp only [List.length_append, List.length_cons]; omega)
        have hlen : (l.take 0 ++ y :: l.drop 0).length = l.length + 1 := by simp; try omega
        have hkm : 0 < (l.take 0 ++ y :: l.drop 0).length := by omega
        have hat : (l.take 0 ++ y :: l.drop 0)[0] = y := by rw [List.getElem_append_right (by simp; try omega)]; simp [show min 0 l.length = 0 by omega]
        obtain ⟨y0, ⟨y1, y2, y3, y4⟩, y5, y6, y7, y8⟩ := y
        have e0 : wr.cell? ⟨g, 0, none⟩ = some (.string y0) := (by have := hcell 0 hkm 0 (by omega); simpa [hat, cellsA] using this)
        have e1 : wr.cell? ⟨g, 1, none⟩ = some (.int .i64 y1) := (by have := hcell 0 hkm 1 (by omega); simpa [hat, cellsA] using this)
        have e2 : wr.cell? ⟨g, 2, none⟩ = some (.int .i64 y2) := (by have := hcell 0 hkm 2 (by omega); simpa [hat, cellsA] using this)
        have e3 : wr.cell? ⟨g, 3, none⟩ = some (.int .i64 y3) := (by have := hcell 0 hkm 3 (by omega); simpa [hat, cellsA] using this)
        have e4 : wr.cell? ⟨g, 4, none⟩ = some (.int .i64 y4) := (by have := hcell 0 hkm 4 (by omega); simpa [hat, cellsA] using this)
        have e5 : wr.cell? ⟨g, 5, none⟩ = some (.int .i64 y5) := (by have := hcell 0 hkm 5 (by omega); simpa [hat, cellsA] using this)
        have e6 : wr.cell? ⟨g, 6, none⟩ = some (.int .i64 y6) := (by have := hcell 0 hkm 6 (by omega); simpa [hat, cellsA] using this)
        have e7 : wr.cell? ⟨g, 7, none⟩ = some (.int .i64 y7) := (by have := hcell 0 hkm 7 (by omega); simpa [hat, cellsA] using this)
        have e8 : wr.cell? ⟨g, 8, none⟩ = some (.int .i64 y8) := (by have := hcell 0 hkm 8 (by omega); simpa [hat, cellsA] using this)
        have a0 : wr.cell? ⟨w2.heap.size, 0, none⟩ = some (.string s) := (blk_cell AK.out 0).trans rfl
        have a1 : wr.cell? ⟨w2.heap.size, 1, none⟩ = some (.int .i64 a) := (blk_cell AK.out 1).trans rfl
        have a2 : wr.cell? ⟨w2.heap.size, 2, none⟩ = some (.int .i64 b) := (blk_cell AK.out 2).trans rfl
        have a3 : wr.cell? ⟨w2.heap.size, 3, none⟩ = some (.int .i64 c) := (blk_cell AK.out 3).trans rfl
        have a4 : wr.cell? ⟨w2.heap.size, 4, none⟩ = some (.int .i64 d) := (blk_cell AK.out 4).trans rfl
        have a5 : wr.cell? ⟨w2.heap.size, 5, none⟩ = some (.int .i64 0) := (blk_cell AK.out 5).trans rfl
        have a6 : wr.cell? ⟨w2.heap.size, 6, none⟩ = some (.int .i64 0) := (blk_cell AK.out 6).trans rfl
        have a7 : wr.cell? ⟨w2.heap.size, 7, none⟩ = some (.int .i64 0) := (blk_cell AK.out 7).trans rfl
        have a8 : wr.cell? ⟨w2.heap.size, 8, none⟩ = some (.int .i64 0) := (blk_cell AK.out 8).trans rfl
        have rc : wr.cell? ⟨R, 0, none⟩ = some (.slice (some ⟨g, 0, none⟩) (l.length + 1) cap') := (blk_cell RK.out.2.1 0).trans rfl
        have hlRr := lt_of_at RK.out.2.1
        have hlA := lt_of_at AK.out
        clear hcell hat
        go_wp2
        go_region_held3 (fun w' => w'.cell? ⟨R, 0, none⟩ = some (.slice (some ⟨g, 0, none⟩) (l.length + 1) cap') ∧ w'.cell? ⟨w2.heap.size, 0, none⟩ = some (.string s) ∧ w'.cell? ⟨w2.heap.size, 1, none⟩ = some (.int .i64 a) ∧ w'.cell? ⟨w2.heap.size, 2, none⟩ = some (.int .i64 b) ∧ w'.cell? ⟨w2.heap.size, 3, none⟩ = some (.int .i64 c) ∧ w'.cell? ⟨w2.heap.size, 4, none⟩ = some (.int .i64 d) ∧ w'.cell? ⟨w2.heap.size, 5, none⟩ = some (.int .i64 0) ∧ w'.cell? ⟨w2.heap.size, 6, none⟩ = some (.int .i64 0) ∧ w'.cell? ⟨w2.heap.size, 7, none⟩ = some (.int .i64 0) ∧ w'.cell? ⟨w2.heap.size, 8, none⟩ = some (.int .i64 0)) (go_keep) (fail)
        all_goals
          skip
          go_wp2
          go_ret
          obtain ⟨r, kt, bl⟩ := row_nine RK.out hlen.symm hgR hkm (s, (a, b, c, d), zeroV)
          have hset : (l.take 0 ++ ((y0, (y1, y2, y3, y4), y5, y6, y7, y8) : RA) :: l.drop 0).set 0 (s, (a, b, c, d), zeroV) = l.take 0 ++ (s, (a, b, c, d), zeroV) :: l.drop 0 := by
            rw [List.set_append_right _ _ (by simp only [List.length_take]; omega)]
            simp [show min 0 l.length = 0 by omega]
          rw [hset] at r
          exact ⟨rfl, 0, by omega, ⟨_, r.below ((Below.refl _ _).drew)⟩, (BK.out.trans bl).drew, KK.out.trans (kt.trans (keptT_below ((Below.refl _ _).drew)))⟩
      · obtain ⟨j, rfl⟩ : ∃ j, k = j + 1 := ⟨k - 1, by omega⟩
        obtain ⟨-, hgl, hgf, hcell⟩ := RK.out.cells (by simp only [List.length_append, List.length_cons]; omega)
        have hlen : (l.take (j + 1) ++ y :: l.drop (j + 1)).length = l.length + 1 := by simp; try omega
        have hkm : j + 1 < (l.take (j + 1) ++ y :: l.drop (j + 1)).length := by omega
        have hjm : j < (l.take (j + 1) ++ y :: l.drop (j + 1)).length := by omega
        have hjl : j < l.length := by omega
        have hat1 : (l.take (j + 1) ++ y :: l.drop (j + 1))[j] = l[j] := by rw [List.getElem_append_left (by simp; omega)]; simp
        have hat2 : (l.take (j + 1) ++ y :: l.drop (j + 1))[j + 1] = y := by rw [List.getElem_append_right (by simp; try omega)]; simp [show min (j + 1) l.length = j + 1 by omega]
        have hcj : ∀ c, c < 9 → wr.cell? ⟨g, j * 9 + c, none⟩ = (cellsA l[j])[c]? := fun c hc => by rw [← hat1]; exact hcell j hjm c hc
        have hcy : ∀ c, c < 9 → wr.cell? ⟨g, (j + 1) * 9 + c, none⟩ = (cellsA y)[c]? := fun c hc => by rw [← hat2]; exact hcell (j + 1) hkm c hc
        obtain ⟨z, hz⟩ : ∃ z, z = l[j] := ⟨_, rfl⟩
        rw [← hz] at hcj
        have HZ := hid hz
        have HHC := hid hcy
        clear hz hat1 hat2 hcell hjm hcy
        obtain ⟨z0, ⟨z1, z2, z3, z4⟩, z5, z6, z7, z8⟩ := z
        have z_0 : wr.cell? ⟨g, j * 9, none⟩ = some (.string z0) := (hcj 0 (by omega)).trans rfl
        have z_1 : wr.cell? ⟨g, j * 9 + 1, none⟩ = some (.int .i64 z1) := (hcj 1 (by omega)).trans rfl
        have z_2 : wr.cell? ⟨g, j * 9 + 2, none⟩ = some (.int .i64 z2) := (hcj 2 (by omega)).trans rfl
        have z_3 : wr.cell? ⟨g, j * 9 + 3, none⟩ = some (.int .i64 z3) := (hcj 3 (by omega)).trans rfl
        have z_4 : wr.cell? ⟨g, j * 9 + 4, none⟩ = some (.int .i64 z4) := (hcj 4 (by omega)).trans rfl
        have z_5 : wr.cell? ⟨g, j * 9 + 5, none⟩ = some (.int .i64 z5) := (hcj 5 (by omega)).trans rfl
        have z_6 : wr.cell? ⟨g, j * 9 + 6, none⟩ = some (.int .i64 z6) := (hcj 6 (by omega)).trans rfl
        have z_7 : wr.cell? ⟨g, j * 9 + 7, none⟩ = some (.int .i64 z7) := (hcj 7 (by omega)).trans rfl
        have z_8 : wr.cell? ⟨g, j * 9 + 8, none⟩ = some (.int .i64 z8) := (hcj 8 (by omega)).trans rfl
        have rc : wr.cell? ⟨R, 0, none⟩ = some (.slice (some ⟨g, 0, none⟩) (l.length + 1) cap') := (blk_cell RK.out.2.1 0).trans rfl
        have hlRr := lt_of_at RK.out.2.1
        obtain ⟨q, hq⟩ : ∃ q, q = gtS z0 s := ⟨_, rfl⟩
        have hgt : ∀ W, (binOp .gtr 9 (.string z0) (.string s)).run Try.prog W = .ok (.bool q) W := fun W => by rw [hq]; simp [binOp, Op.stringOp, gtS]
        clear hq hcj
        cases q with
        | false =>
          go_upto_region 15 with fail
          clear hgt hkm hgl hgf hlen rc hlRr z_0 z_1 z_2 z_3 z_4 z_5 z_6 z_7 z_8
          obtain ⟨-, hgl, hgf, hcell⟩ := RK.out.cells (by simp only [List.length_append, List.length_cons]; omega)
          have hlen : (l.take (j + 1) ++ y :: l.drop (j + 1)).length = l.length + 1 := by simp; try omega
          have hkm : (j + 1) < (l.take (j + 1) ++ y :: l.drop (j + 1)).length := by omega
          have hat : (l.take (j + 1) ++ y :: l.drop (j + 1))[(j + 1)] = y := by rw [List.getElem_append_right (by simp; try omega)]; simp [show min (j + 1) l.length = (j + 1) by omega]
          obtain ⟨y0, ⟨y1, y2, y3, y4⟩, y5, y6, y7, y8⟩ := y
          have e0 : wr.cell? ⟨g, (j + 1) * 9, none⟩ = some (.string y0) := (hcell (j + 1) hkm 0 (by omega)).trans (by rw [hat]; rfl)
          have e1 : wr.cell? ⟨g, (j + 1) * 9 + 1, none⟩ = some (.int .i64 y1) := (hcell (j + 1) hkm 1 (by omega)).trans (by rw [hat]; rfl)
          have e2 : wr.cell? ⟨g, (j + 1) * 9 + 2, none⟩ = some (.int .i64 y2) := (hcell (j + 1) hkm 2 (by omega)).trans (by rw [hat]; rfl)
          have e3 : wr.cell? ⟨g, (j + 1) * 9 + 3, none⟩ = some (.int .i64 y3) := (hcell (j + 1) hkm 3 (by omega)).trans (by rw [hat]; rfl)
          have e4 : wr.cell? ⟨g, (j + 1) * 9 + 4, none⟩ = some (.int .i64 y4) := (hcell (j + 1) hkm 4 (by omega)).trans (by rw [hat]; rfl)
          have e5 : wr.cell? ⟨g, (j + 1) * 9 + 5, none⟩ = some (.int .i64 y5) := (hcell (j + 1) hkm 5 (by omega)).trans (by rw [hat]; rfl)
          have e6 : wr.cell? ⟨g, (j + 1) * 9 + 6, none⟩ = some (.int .i64 y6) := (hcell (j + 1) hkm 6 (by omega)).trans (by rw [hat]; rfl)
          have e7 : wr.cell? ⟨g, (j + 1) * 9 + 7, none⟩ = some (.int .i64 y7) := (hcell (j + 1) hkm 7 (by omega)).trans (by rw [hat]; rfl)
          have e8 : wr.cell? ⟨g, (j + 1) * 9 + 8, none⟩ = some (.int .i64 y8) := (hcell (j + 1) hkm 8 (by omega)).trans (by rw [hat]; rfl)
          have a0 : wr.cell? ⟨w2.heap.size, 0, none⟩ = some (.string s) := (blk_cell AK.out 0).trans rfl
          have a1 : wr.cell? ⟨w2.heap.size, 1, none⟩ = some (.int .i64 a) := (blk_cell AK.out 1).trans rfl
          have a2 : wr.cell? ⟨w2.heap.size, 2, none⟩ = some (.int .i64 b) := (blk_cell AK.out 2).trans rfl
          have a3 : wr.cell? ⟨w2.heap.size, 3, none⟩ = some (.int .i64 c) := (blk_cell AK.out 3).trans rfl
          have a4 : wr.cell? ⟨w2.heap.size, 4, none⟩ = some (.int .i64 d) := (blk_cell AK.out 4).trans rfl
          have a5 : wr.cell? ⟨w2.heap.size, 5, none⟩ = some (.int .i64 0) := (blk_cell AK.out 5).trans rfl
          have a6 : wr.cell? ⟨w2.heap.size, 6, none⟩ = some (.int .i64 0) := (blk_cell AK.out 6).trans rfl
          have a7 : wr.cell? ⟨w2.heap.size, 7, none⟩ = some (.int .i64 0) := (blk_cell AK.out 7).trans rfl
          have a8 : wr.cell? ⟨w2.heap.size, 8, none⟩ = some (.int .i64 0) := (blk_cell AK.out 8).trans rfl
          have rc : wr.cell? ⟨R, 0, none⟩ = some (.slice (some ⟨g, 0, none⟩) (l.length + 1) cap') := (blk_cell RK.out.2.1 0).trans rfl
          have hlRr := lt_of_at RK.out.2.1
          have hlA := lt_of_at AK.out
          clear hcell hat
          have iw0 : IntKind.i64.wrap (j : Int) = (j : Int) := IntWalk.i64_in _ (by omega)
          have iw1 : IntKind.i64.wrap ((j : Int) + 1 - 1) = (j : Int) := by rw [show (j : Int) + 1 - 1 = j by omega]; exact iw0
          have iw2 : IntKind.i64.wrap (((j + 1 : Nat) : Int) - 1) = (j : Int) := by rw [show ((j + 1 : Nat) : Int) - 1 = j by omega]; exact iw0
          have it0 : (0 : Int) ≤ (j : Int) + 1 := by omega
          have it1 : ((j : Int) + 1).toNat = j + 1 := by omega
          have it2 : (j : Int) + 1 < (l.length : Int) + 1 := by omega
          have it3 : (j : Int) < (l.length : Int) + 1 := by omega
          have it4 : j + 1 < l.length + 1 := by omega
          have it5 : j < l.length + 1 := by omega
          go_wp2
          go_region_held3 (fun w' => w'.cell? ⟨R, 0, none⟩ = some (.slice (some ⟨g, 0, none⟩) (l.length + 1) cap') ∧ w'.cell? ⟨w2.heap.size, 0, none⟩ = some (.string s) ∧ w'.cell? ⟨w2.heap.size, 1, none⟩ = some (.int .i64 a) ∧ w'.cell? ⟨w2.heap.size, 2, none⟩ = some (.int .i64 b) ∧ w'.cell? ⟨w2.heap.size, 3, none⟩ = some (.int .i64 c) ∧ w'.cell? ⟨w2.heap.size, 4, none⟩ = some (.int .i64 d) ∧ w'.cell? ⟨w2.heap.size, 5, none⟩ = some (.int .i64 0) ∧ w'.cell? ⟨w2.heap.size, 6, none⟩ = some (.int .i64 0) ∧ w'.cell? ⟨w2.heap.size, 7, none⟩ = some (.int .i64 0) ∧ w'.cell? ⟨w2.heap.size, 8, none⟩ = some (.int .i64 0)) (go_keep) (fail)
          all_goals
            clear iw0 iw1 iw2 it0 it1 it2 it3 it4 it5
            go_wp2
            go_ret
            obtain ⟨r, kt, bl⟩ := row_nine RK.out hlen.symm hgR hkm (s, (a, b, c, d), zeroV)
            have hset : (l.take (j + 1) ++ ((y0, (y1, y2, y3, y4), y5, y6, y7, y8) : RA) :: l.drop (j + 1)).set (j + 1) (s, (a, b, c, d), zeroV) = l.take (j + 1) ++ (s, (a, b, c, d), zeroV) :: l.drop (j + 1) := by
              rw [List.set_append_right _ _ (by simp only [List.length_take]; omega)]
              simp [show min (j + 1) l.length = (j + 1) by omega]
            rw [hset] at r
            exact ⟨rfl, (j + 1), by omega, ⟨_, r.below ((Below.refl _ _).drew)⟩, (BK.out.trans bl).drew, KK.out.trans (kt.trans (keptT_below ((Below.refl _ _).drew)))⟩
        | true =>
          go_upto_region 13 with fail
          clear hgt
          have hcy := HHC.out
          obtain ⟨y0, ⟨y1, y2, y3, y4⟩, y5, y6, y7, y8⟩ := y
          have e0 : wr.cell? ⟨g, (j + 1) * 9, none⟩ = some (.string y0) := (hcy 0 (by omega)).trans rfl
          have e1 : wr.cell? ⟨g, (j + 1) * 9 + 1, none⟩ = some (.int .i64 y1) := (hcy 1 (by omega)).trans rfl
          have e2 : wr.cell? ⟨g, (j + 1) * 9 + 2, none⟩ = some (.int .i64 y2) := (hcy 2 (by omega)).trans rfl
          have e3 : wr.cell? ⟨g, (j + 1) * 9 + 3, none⟩ = some (.int .i64 y3) := (hcy 3 (by omega)).trans rfl
          have e4 : wr.cell? ⟨g, (j + 1) * 9 + 4, none⟩ = some (.int .i64 y4) := (hcy 4 (by omega)).trans rfl
          have e5 : wr.cell? ⟨g, (j + 1) * 9 + 5, none⟩ = some (.int .i64 y5) := (hcy 5 (by omega)).trans rfl
          have e6 : wr.cell? ⟨g, (j + 1) * 9 + 6, none⟩ = some (.int .i64 y6) := (hcy 6 (by omega)).trans rfl
          have e7 : wr.cell? ⟨g, (j + 1) * 9 + 7, none⟩ = some (.int .i64 y7) := (hcy 7 (by omega)).trans rfl
          have e8 : wr.cell? ⟨g, (j + 1) * 9 + 8, none⟩ = some (.int .i64 y8) := (hcy 8 (by omega)).trans rfl
          clear hcy
          have iw0 : IntKind.i64.wrap (j : Int) = (j : Int) := IntWalk.i64_in _ (by omega)
          have iw1 : IntKind.i64.wrap ((j : Int) + 1 - 1) = (j : Int) := by rw [show (j : Int) + 1 - 1 = j by omega]; exact iw0
          have iw2 : IntKind.i64.wrap (((j + 1 : Nat) : Int) - 1) = (j : Int) := by rw [show ((j + 1 : Nat) : Int) - 1 = j by omega]; exact iw0
          have it0 : (0 : Int) ≤ (j : Int) + 1 := by omega
          have it1 : ((j : Int) + 1).toNat = j + 1 := by omega
          have it2 : (j : Int) + 1 < (l.length : Int) + 1 := by omega
          have it3 : (j : Int) < (l.length : Int) + 1 := by omega
          have it4 : j + 1 < l.length + 1 := by omega
          have it5 : j < l.length + 1 := by omega
          go_region_held3 (fun w' => w'.cell? ⟨R, 0, none⟩ = some (.slice (some ⟨g, 0, none⟩) (l.length + 1) cap') ∧ w'.cell? ⟨g, j * 9, none⟩ = some (.string z0) ∧ w'.cell? ⟨g, j * 9 + 1, none⟩ = some (.int .i64 z1) ∧ w'.cell? ⟨g, j * 9 + 2, none⟩ = some (.int .i64 z2) ∧ w'.cell? ⟨g, j * 9 + 3, none⟩ = some (.int .i64 z3) ∧ w'.cell? ⟨g, j * 9 + 4, none⟩ = some (.int .i64 z4) ∧ w'.cell? ⟨g, j * 9 + 5, none⟩ = some (.int .i64 z5) ∧ w'.cell? ⟨g, j * 9 + 6, none⟩ = some (.int .i64 z6) ∧ w'.cell? ⟨g, j * 9 + 7, none⟩ = some (.int .i64 z7) ∧ w'.cell? ⟨g, j * 9 + 8, none⟩ = some (.int .i64 z8)) (((try go_split_ands); (try dsimp only); (repeat' apply And.intro); (all_goals (repeat (first | with_reducible assumption | with_reducible apply cell_drew | (with_reducible apply cell_set_ne; (focus (first | exact adr_neR hgR | exact adr_ne _ _ _ _ (by decide) | exact adr_ne1 _ _ _ (by decide) | exact adr_ne2 _ _ _ | exact adr_ne3 _ _)))))))) (fail)
          all_goals
            clear iw0 iw1 iw2 it0 it1 it2 it3 it4 it5
            obtain ⟨r, kt, bl⟩ := row_nine RK.out hlen.symm hgR hkm (z0, (z1, z2, z3, z4), z5, z6, z7, z8)
            have hset : (l.take (j + 1) ++ ((y0, (y1, y2, y3, y4), y5, y6, y7, y8) : RA) :: l.drop (j + 1)).set (j + 1) (z0, (z1, z2, z3, z4), z5, z6, z7, z8) = l.take j ++ (z0, (z1, z2, z3, z4), z5, z6, z7, z8) :: l.drop j := by
              rw [List.set_append_right _ _ (by simp only [List.length_take]; omega)]
              simp only [List.length_take, show min (j + 1) l.length = j + 1 by omega, Nat.sub_self, List.set_cons_zero]
              rw [HZ.out]
              exact take_move hjl
            rw [hset] at r
            have RK' := hid (r.below ((Below.refl _ _).drew))
            have KK' := hid (KK.out.trans (kt.trans (keptT_below ((Below.refl _ _).drew))))
            have BK' := hid ((BK.out.trans bl).drew)
            have ak := AK.out
            have hll2 : (j : Int) ≤ 9223372036854775000 := by omega
            clear r kt bl hset
            go_wp2
            go_roundw
            case rel => exact ⟨j, _, by omega, by go_num, RK', hid (by (repeat (first | (with_reducible assumption) | (with_reducible exact alloc_at _ _) | ((with_reducible apply alloc_at'); (simp; done)) | (with_reducible apply alloc_at_lt) | (with_reducible apply heap_drew_at) | (with_reducible apply heap_drewN_at) | (with_reducible apply heap_setCell_same) | ((with_reducible apply heap_set_ne); (first | omega | (dsimp only; omega) | (simp; done) | (simp; omega))) | (with_reducible apply setRow_at) | ((with_reducible apply setRow_ne); (first | omega | (dsimp only; omega) | (simp; done) | (simp; omega)))))), KK', BK'⟩
            case measure => simp [intOf]; try omega
end Go.Proofs.Ytobgolceggeogaa
