/- Contracts of Whole of chapter 19, of the program and of the reference: what all live ones have. -/
import Derived.Test.YtkplhobiciddoaaRnD
import Derived.BigQuiet
import Derived.Deep.QuietTactic
namespace Go.Proofs.Ytkplhobiciddoaa
open Go.RowKit Go.Maps
def capI (a b : Int) : Int := min (wrap64 (a + b)) 1099511627776
def capV (v c : V) : V := (capI v.1 c.1, capI v.2.1 c.2.1, capI v.2.2.1 c.2.2.1, capI v.2.2.2 c.2.2.2)
def wholeL (l : List Nd) : V := l.foldl (fun v x => capV v x.cap) zeroV
theorem whole_next {l : List Nd} {k : Nat} (h : k < l.length) : wholeL (l.take (k + 1)) = capV (wholeL (l.take k)) l[k].cap := by
  have h1 : l.take (k + 1) = l.take k ++ [l[k]] := by rw [List.take_add_one, List.getElem?_eq_getElem h]; rfl
  unfold wholeL
  rw [h1, List.foldl_append]
  rfl
theorem infoVcs : (Try.prog.info? 25).map (·.size) = some 4 := by kernel_rfl
theorem rowN_block {B n : Nat} {w : World} {v : Value} {l : List Nd} (h : w.ownsRow B 34 8 v n (flatN l)) (hn : n = l.length) (h0 : 0 < l.length) :
    ∃ g cap cur, v = .slice (some ⟨g, 0, none⟩) n cap ∧ B ≤ g ∧ w.heap[g]? = some (.cells cur 34 (0, 0)) ∧ ∀ W : World, W.heap[g]? = some (.cells cur 34 (0, 0)) → ∀ j, (hj : j < l.length) → ∀ c, c < 8 → W.cell? ⟨g, j * 8 + c, none⟩ = (cellsN l[j])[c]? := by
  subst hn
  obtain ⟨h3, ⟨-, h4⟩ | ⟨g, cap, cur, rfl, hg, hh, hc, -, hs, ht⟩⟩ := h
  · omega
  · refine ⟨g, cap, cur, rfl, hg, hh, fun W hW j hj c hc9 => ?_⟩
    rw [blk_cell hW, ← flatN_at l j hj c hc9, ← ht, List.getElem?_take, if_pos (by omega)]
    simp
set_option maxRecDepth 20000 in
set_option maxHeartbeats 4000000 in
theorem whole_of (p : Value) (l : List Nd) (w : World) (hm : l.length ≤ 12)
    (hl : ∀ W, Below w.heap.size w W → Calls Try.prog 15 #[p] W fun e w' => ∃ v, e = .returned v ∧ w'.ownsRow W.heap.size 34 8 v l.length (flatN l) ∧ Below W.heap.size W w') :
    Calls Try.prog 20 #[p] w fun e w' => e = .returned (.agg #[.int .i64 (wholeL l).1, .int .i64 (wholeL l).2.1, .int .i64 (wholeL l).2.2.1, .int .i64 (wholeL l).2.2.2]) ∧ Below w.heap.size w w' := by
  obtain ⟨⟨r0, r1, r2, r3⟩, hr⟩ : ∃ r, r = wholeL l := ⟨_, rfl⟩
  rw [← hr]
  simp only
  have HR := hid hr
  have HL := hid hl
  obtain ⟨n, hn⟩ : ∃ n, n = l.length := ⟨_, rfl⟩
  have HN := hid hn
  rw [← hn] at hm
  clear hr hl hn
  go_enter Try.func20, Try.ntmps20
  go_wp2_with fail
  refine (HL.out _ (by repeat (first | with_reducible assumption | with_reducible exact Below.refl _ _ | with_reducible refine Below.drew ?_ | with_reducible refine below_drewN ?_ _ | with_reducible refine below_alloc ?_ _ | with_reducible refine Below.alloc ?_ (by first | omega | (simp; done) | (simp; omega)) _ | with_reducible refine Below.setCell ?_ (by first | omega | (simp; done) | (simp; omega)) _ | with_reducible refine below_setRow ?_ (by first | omega | (simp; done) | (simp; omega)) _))).mono ?_
  rintro e w1 ⟨v, rfl, hrow, hb1⟩
  have hs1 := hb1.size
  simp only [World.size_alloc] at hs1
  have Z0 := below_at hb1 (n := w.heap.size) (by first | omega | (simp; done) | (simp; omega)) (by (repeat (first | (with_reducible assumption) | (with_reducible exact alloc_at _ _) | ((with_reducible apply alloc_at'); (simp; done)) | (with_reducible apply alloc_at_lt) | (with_reducible apply heap_drew_at) | (with_reducible apply heap_drewN_at) | (with_reducible apply heap_setCell_same) | ((with_reducible apply heap_set_ne); (first | omega | (dsimp only; omega) | (simp; done) | (simp; omega))) | (with_reducible apply setRow_at) | ((with_reducible apply setRow_ne); (first | omega | (dsimp only; omega) | (simp; done) | (simp; omega))))))
  have Z1 := below_at hb1 (n := w.heap.size + 1) (by first | omega | (simp; done) | (simp; omega)) (by (repeat (first | (with_reducible assumption) | (with_reducible exact alloc_at _ _) | ((with_reducible apply alloc_at'); (simp; done)) | (with_reducible apply alloc_at_lt) | (with_reducible apply heap_drew_at) | (with_reducible apply heap_drewN_at) | (with_reducible apply heap_setCell_same) | ((with_reducible apply heap_set_ne); (first | omega | (dsimp only; omega) | (simp; done) | (simp; omega))) | (with_reducible apply setRow_at) | ((with_reducible apply setRow_ne); (first | omega | (dsimp only; omega) | (simp; done) | (simp; omega))))))
  have B1 : Below w.heap.size w w1 := Below.trans (by repeat (first | with_reducible assumption | with_reducible exact Below.refl _ _ | with_reducible refine Below.drew ?_ | with_reducible refine below_drewN ?_ _ | with_reducible refine below_alloc ?_ _ | with_reducible refine Below.alloc ?_ (by first | omega | (simp; done) | (simp; omega)) _ | with_reducible refine Below.setCell ?_ (by first | omega | (simp; done) | (simp; omega)) _ | with_reducible refine below_setRow ?_ (by first | omega | (simp; done) | (simp; omega)) _)) (hb1.mono (by first | omega | (simp; done) | (simp; omega)))
  rw [← HN.out] at hrow
  clear hb1
  rcases Nat.eq_zero_or_pos n with h0 | h0
  · obtain ⟨A, cap, rfl⟩ := rowN_slice hrow
    subst h0
    have hl0 : l = [] := List.length_eq_zero_iff.1 HN.out.symm
    subst hl0
    have hr0 := HR.out
    cases hr0
    have z0 := blk_cell Z1 0
    have z1 := blk_cell Z1 1
    have z2 := blk_cell Z1 2
    have z3 := blk_cell Z1 3
    have y0 := blk_cell Z0 0
    have y1 := blk_cell Z0 1
    have y2 := blk_cell Z0 2
    have y3 := blk_cell Z0 3
    have yf := blk_free Z0
    have hl0 := lt_of_at Z0
    have hl1 := lt_of_at Z1
    simp at z0 z1 z2 z3 y0 y1 y2 y3
    clear hrow
    go_wp2
    refine wp_loop_rounds 1 ?_
    rw [rounds_succ]
    go_wp2
    refine ret_row1 rfl w.heap.size #[.int .i64 0, .int .i64 0, .int .i64 0, .int .i64 0] 25 _ rfl Try.underlying25 rfl infoVcs rfl (by apply Exists.intro; refine ⟨?_, ?_⟩; (focus ((repeat (first | (with_reducible assumption) | (with_reducible exact alloc_at _ _) | ((with_reducible apply alloc_at'); (simp; done)) | (with_reducible apply alloc_at_lt) | (with_reducible apply heap_drew_at) | (with_reducible apply heap_drewN_at) | (with_reducible apply heap_setCell_same) | ((with_reducible apply heap_set_ne); (first | omega | (dsimp only; omega) | (simp; done) | (simp; omega))) | (with_reducible apply setRow_at) | ((with_reducible apply setRow_ne); (first | omega | (dsimp only; omega) | (simp; done) | (simp; omega))))))); simp) ⟨rfl, (by repeat (first | with_reducible assumption | with_reducible exact Below.refl _ _ | with_reducible refine Below.drew ?_ | with_reducible refine below_drewN ?_ _ | with_reducible refine below_alloc ?_ _ | with_reducible refine Below.alloc ?_ (by first | omega | (simp; done) | (simp; omega)) _ | with_reducible refine Below.setCell ?_ (by first | omega | (simp; done) | (simp; omega)) _ | with_reducible refine below_setRow ?_ (by first | omega | (simp; done) | (simp; omega)) _))⟩
  · obtain ⟨g, cap, cur, rfl, hgB, hG, hcell⟩ := rowN_block hrow HN.out (by have := HN.out; omega)
    simp only [World.size_alloc] at hgB
    have HCELL := hid hcell
    clear hrow hcell
    go_wp2_with fail
    go_loopw [11] (fun i wr => ∃ (k : Nat) (a0 a1 a2 a3 : Int), k ≤ n ∧ i = .int .i64 k ∧ Hid (wr.heap[w.heap.size + 1]? = some (.cells #[.int .i64 a0, .int .i64 a1, .int .i64 a2, .int .i64 a3] 25 (0, 0))) ∧ Hid ((a0, a1, a2, a3) = wholeL (l.take k)) ∧ Hid (wr.heap[w.heap.size]? = some (.cells #[.int .i64 0, .int .i64 0, .int .i64 0, .int .i64 0] 25 (0, 0))) ∧ Hid (wr.heap[g]? = some (.cells cur 34 (0, 0))) ∧ Hid (Below w.heap.size w wr)) (fun i _ => n - (intOf i).toNat)
    case atStart => exact ⟨0, 0, 0, 0, 0, Nat.zero_le _, rfl, hid Z1, hid rfl, hid Z0, hid hG, hid B1⟩
    case round =>
      obtain ⟨k, a0, a1, a2, a3, hkn, rfl, HX, HV, HZ, HG, HB⟩ := hrel
      clear Z0 Z1 hG B1
      have b0 : wr.cell? ⟨w.heap.size + 1, 0, none⟩ = some (.int .i64 a0) := (blk_cell HX.out 0).trans rfl
      have b1 : wr.cell? ⟨w.heap.size + 1, 1, none⟩ = some (.int .i64 a1) := (blk_cell HX.out 1).trans rfl
      have b2 : wr.cell? ⟨w.heap.size + 1, 2, none⟩ = some (.int .i64 a2) := (blk_cell HX.out 2).trans rfl
      have b3 : wr.cell? ⟨w.heap.size + 1, 3, none⟩ = some (.int .i64 a3) := (blk_cell HX.out 3).trans rfl
      have bf := blk_free HX.out
      have hl1 := lt_of_at HX.out
      have hlg := lt_of_at HG.out
      have hl0 := lt_of_at HZ.out
      by_cases hk : k < n
      · have hkl : k < l.length := by have := HN.out; omega
        obtain ⟨x, hx⟩ : ∃ x, x = l[k] := ⟨_, rfl⟩
        have hca : ∀ c, c < 8 → wr.cell? ⟨g, k * 8 + c, none⟩ = (cellsN x)[c]? := fun c hc => by rw [hx]; exact HCELL.out wr HG.out k hkl c hc
        have HK1 : Hid (k + 1 ≤ n) := hk
        have HM1 : Hid (n - (k + 1) < n - k) := by unfold Hid; omega
        have HNX : Hid (wholeL (l.take (k + 1)) = capV (wholeL (l.take k)) x.cap) := by rw [hx]; exact whole_next hkl
        clear hx
        obtain ⟨x0, x1, ⟨x2, x3, x4, x5⟩, x6, x7⟩ := x
        have q0 : wr.cell? ⟨g, k * 8, none⟩ = some (.string x0) := (hca 0 (by omega)).trans rfl
        have q1 : wr.cell? ⟨g, k * 8 + 1, none⟩ = some (.int .i64 x1) := (hca 1 (by omega)).trans rfl
        have q2 : wr.cell? ⟨g, k * 8 + 2, none⟩ = some (.int .i64 x2) := (hca 2 (by omega)).trans rfl
        have q3 : wr.cell? ⟨g, k * 8 + 3, none⟩ = some (.int .i64 x3) := (hca 3 (by omega)).trans rfl
        have q4 : wr.cell? ⟨g, k * 8 + 4, none⟩ = some (.int .i64 x4) := (hca 4 (by omega)).trans rfl
        have q5 : wr.cell? ⟨g, k * 8 + 5, none⟩ = some (.int .i64 x5) := (hca 5 (by omega)).trans rfl
        have q6 : wr.cell? ⟨g, k * 8 + 6, none⟩ = some (.int .i64 x6) := (hca 6 (by omega)).trans rfl
        have q7 : wr.cell? ⟨g, k * 8 + 7, none⟩ = some (.bool x7) := (hca 7 (by omega)).trans rfl
        have kl : (k : Int) < (n : Int) := by omega
        clear hca
        go_wp2
        refine wp_loop_rounds 5 ?_
        iterate 4 (rw [rounds_succ]; go_wp2)
        rw [rounds_succ]
        go_wp2
        go_roundw
        case rel => exact ⟨k + 1, capI a0 x2, capI a1 x3, capI a2 x4, capI a3 x5, HK1.out, by go_num, hid (by have hX := HX.out; exact at_of (by apply Exists.intro; refine ⟨?_, ?_⟩; (focus ((repeat (first | (with_reducible assumption) | (with_reducible exact alloc_at _ _) | ((with_reducible apply alloc_at'); (simp; done)) | (with_reducible apply alloc_at_lt) | (with_reducible apply heap_drew_at) | (with_reducible apply heap_drewN_at) | (with_reducible apply heap_setCell_same) | ((with_reducible apply heap_set_ne); (first | omega | (dsimp only; omega) | (simp; done) | (simp; omega))) | (with_reducible apply setRow_at) | ((with_reducible apply setRow_ne); (first | omega | (dsimp only; omega) | (simp; done) | (simp; omega))))))); simp; exact ⟨rfl, rfl, rfl, rfl⟩)), by unfold Hid; rw [HNX.out, ← HV.out]; rfl, hid (by have hZ := HZ.out; exact (by (repeat (first | (with_reducible assumption) | (with_reducible exact alloc_at _ _) | ((with_reducible apply alloc_at'); (simp; done)) | (with_reducible apply alloc_at_lt) | (with_reducible apply heap_drew_at) | (with_reducible apply heap_drewN_at) | (with_reducible apply heap_setCell_same) | ((with_reducible apply heap_set_ne); (first | omega | (dsimp only; omega) | (simp; done) | (simp; omega))) | (with_reducible apply setRow_at) | ((with_reducible apply setRow_ne); (first | omega | (dsimp only; omega) | (simp; done) | (simp; omega))))))), hid (by have hG := HG.out; exact (by (repeat (first | (with_reducible assumption) | (with_reducible exact alloc_at _ _) | ((with_reducible apply alloc_at'); (simp; done)) | (with_reducible apply alloc_at_lt) | (with_reducible apply heap_drew_at) | (with_reducible apply heap_drewN_at) | (with_reducible apply heap_setCell_same) | ((with_reducible apply heap_set_ne); (first | omega | (dsimp only; omega) | (simp; done) | (simp; omega))) | (with_reducible apply setRow_at) | ((with_reducible apply setRow_ne); (first | omega | (dsimp only; omega) | (simp; done) | (simp; omega))))))), hid (by have hB := HB.out; exact (by repeat (first | with_reducible assumption | with_reducible exact Below.refl _ _ | with_reducible refine Below.drew ?_ | with_reducible refine below_drewN ?_ _ | with_reducible refine below_alloc ?_ _ | with_reducible refine Below.alloc ?_ (by first | omega | (simp; done) | (simp; omega)) _ | with_reducible refine Below.setCell ?_ (by first | omega | (simp; done) | (simp; omega)) _ | with_reducible refine below_setRow ?_ (by first | omega | (simp; done) | (simp; omega)) _)))⟩
        case measure => have := HM1.out; simp [intOf]; omega
      · obtain rfl : k = n := by omega
        have hv := HV.out
        rw [HN.out, List.take_length, ← HR.out] at hv
        injection hv with e1 e2
        injection e2 with e2 e3
        injection e3 with e3 e4
        subst e1 e2 e3 e4
        have y0 : wr.cell? ⟨w.heap.size, 0, none⟩ = some (.int .i64 0) := (blk_cell HZ.out 0).trans rfl
        have y1 : wr.cell? ⟨w.heap.size, 1, none⟩ = some (.int .i64 0) := (blk_cell HZ.out 1).trans rfl
        have y2 : wr.cell? ⟨w.heap.size, 2, none⟩ = some (.int .i64 0) := (blk_cell HZ.out 2).trans rfl
        have y3 : wr.cell? ⟨w.heap.size, 3, none⟩ = some (.int .i64 0) := (blk_cell HZ.out 3).trans rfl
        have yf := blk_free HZ.out
        have hz := HZ.out
        have hb := HB.out
        go_wp2
        refine ret_row1 rfl w.heap.size #[.int .i64 a0, .int .i64 a1, .int .i64 a2, .int .i64 a3] 25 _ rfl Try.underlying25 rfl infoVcs rfl (by apply Exists.intro; refine ⟨?_, ?_⟩; (focus ((repeat (first | (with_reducible assumption) | (with_reducible exact alloc_at _ _) | ((with_reducible apply alloc_at'); (simp; done)) | (with_reducible apply alloc_at_lt) | (with_reducible apply heap_drew_at) | (with_reducible apply heap_drewN_at) | (with_reducible apply heap_setCell_same) | ((with_reducible apply heap_set_ne); (first | omega | (dsimp only; omega) | (simp; done) | (simp; omega))) | (with_reducible apply setRow_at) | ((with_reducible apply setRow_ne); (first | omega | (dsimp only; omega) | (simp; done) | (simp; omega))))))); simp) ⟨rfl, (by repeat (first | with_reducible assumption | with_reducible exact Below.refl _ _ | with_reducible refine Below.drew ?_ | with_reducible refine below_drewN ?_ _ | with_reducible refine below_alloc ?_ _ | with_reducible refine Below.alloc ?_ (by first | omega | (simp; done) | (simp; omega)) _ | with_reducible refine Below.setCell ?_ (by first | omega | (simp; done) | (simp; omega)) _ | with_reducible refine below_setRow ?_ (by first | omega | (simp; done) | (simp; omega)) _))⟩
set_option maxRecDepth 20000 in
set_option maxHeartbeats 4000000 in
theorem rwhole_of (p : Value) (l : List Nd) (w : World) (hm : l.length ≤ 12)
    (hl : ∀ W, Below w.heap.size w W → Calls Try.prog 19 #[p] W fun e w' => ∃ v, e = .returned v ∧ w'.ownsRow W.heap.size 34 8 v l.length (flatN l) ∧ Below W.heap.size W w') :
    Calls Try.prog 21 #[p] w fun e w' => e = .returned (.agg #[.int .i64 (wholeL l).1, .int .i64 (wholeL l).2.1, .int .i64 (wholeL l).2.2.1, .int .i64 (wholeL l).2.2.2]) ∧ Below w.heap.size w w' := by
  obtain ⟨⟨r0, r1, r2, r3⟩, hr⟩ : ∃ r, r = wholeL l := ⟨_, rfl⟩
  rw [← hr]
  simp only
  have HR := hid hr
  have HL := hid hl
  obtain ⟨n, hn⟩ : ∃ n, n = l.length := ⟨_, rfl⟩
  have HN := hid hn
  rw [← hn] at hm
  clear hr hl hn
  go_enter Try.func21, Try.ntmps21
  go_wp2_with fail
  refine (HL.out _ (by repeat (first | with_reducible assumption | with_reducible exact Below.refl _ _ | with_reducible refine Below.drew ?_ | with_reducible refine below_drewN ?_ _ | with_reducible refine below_alloc ?_ _ | with_reducible refine Below.alloc ?_ (by first | omega | (simp; done) | (simp; omega)) _ | with_reducible refine Below.setCell ?_ (by first | omega | (simp; done) | (simp; omega)) _ | with_reducible refine below_setRow ?_ (by first | omega | (simp; done) | (simp; omega)) _))).mono ?_
  rintro e w1 ⟨v, rfl, hrow, hb1⟩
  have hs1 := hb1.size
  simp only [World.size_alloc] at hs1
  have Z0 := below_at hb1 (n := w.heap.size) (by first | omega | (simp; done) | (simp; omega)) (by (repeat (first | (with_reducible assumption) | (with_reducible exact alloc_at _ _) | ((with_reducible apply alloc_at'); (simp; done)) | (with_reducible apply alloc_at_lt) | (with_reducible apply heap_drew_at) | (with_reducible apply heap_drewN_at) | (with_reducible apply heap_setCell_same) | ((with_reducible apply heap_set_ne); (first | omega | (dsimp only; omega) | (simp; done) | (simp; omega))) | (with_reducible apply setRow_at) | ((with_reducible apply setRow_ne); (first | omega | (dsimp only; omega) | (simp; done) | (simp; omega))))))
  have Z1 := below_at hb1 (n := w.heap.size + 1) (by first | omega | (simp; done) | (simp; omega)) (by (repeat (first | (with_reducible assumption) | (with_reducible exact alloc_at _ _) | ((with_reducible apply alloc_at'); (simp; done)) | (with_reducible apply alloc_at_lt) | (with_reducible apply heap_drew_at) | (with_reducible apply heap_drewN_at) | (with_reducible apply heap_setCell_same) | ((with_reducible apply heap_set_ne); (first | omega | (dsimp only; omega) | (simp; done) | (simp; omega))) | (with_reducible apply setRow_at) | ((with_reducible apply setRow_ne); (first | omega | (dsimp only; omega) | (simp; done) | (simp; omega))))))
  have B1 : Below w.heap.size w w1 := Below.trans (by repeat (first | with_reducible assumption | with_reducible exact Below.refl _ _ | with_reducible refine Below.drew ?_ | with_reducible refine below_drewN ?_ _ | with_reducible refine below_alloc ?_ _ | with_reducible refine Below.alloc ?_ (by first | omega | (simp; done) | (simp; omega)) _ | with_reducible refine Below.setCell ?_ (by first | omega | (simp; done) | (simp; omega)) _ | with_reducible refine below_setRow ?_ (by first | omega | (simp; done) | (simp; omega)) _)) (hb1.mono (by first | omega | (simp; done) | (simp; omega)))
  rw [← HN.out] at hrow
  clear hb1
  rcases Nat.eq_zero_or_pos n with h0 | h0
  · obtain ⟨A, cap, rfl⟩ := rowN_slice hrow
    subst h0
    have hl0 : l = [] := List.length_eq_zero_iff.1 HN.out.symm
    subst hl0
    have hr0 := HR.out
    cases hr0
    have z0 := blk_cell Z1 0
    have z1 := blk_cell Z1 1
    have z2 := blk_cell Z1 2
    have z3 := blk_cell Z1 3
    have y0 := blk_cell Z0 0
    have y1 := blk_cell Z0 1
    have y2 := blk_cell Z0 2
    have y3 := blk_cell Z0 3
    have yf := blk_free Z0
    have hl0 := lt_of_at Z0
    have hl1 := lt_of_at Z1
    simp at z0 z1 z2 z3 y0 y1 y2 y3
    clear hrow
    go_wp2
    refine wp_loop_rounds 1 ?_
    rw [rounds_succ]
    go_wp2
    refine ret_row1 rfl w.heap.size #[.int .i64 0, .int .i64 0, .int .i64 0, .int .i64 0] 25 _ rfl Try.underlying25 rfl infoVcs rfl (by apply Exists.intro; refine ⟨?_, ?_⟩; (focus ((repeat (first | (with_reducible assumption) | (with_reducible exact alloc_at _ _) | ((with_reducible apply alloc_at'); (simp; done)) | (with_reducible apply alloc_at_lt) | (with_reducible apply heap_drew_at) | (with_reducible apply heap_drewN_at) | (with_reducible apply heap_setCell_same) | ((with_reducible apply heap_set_ne); (first | omega | (dsimp only; omega) | (simp; done) | (simp; omega))) | (with_reducible apply setRow_at) | ((with_reducible apply setRow_ne); (first | omega | (dsimp only; omega) | (simp; done) | (simp; omega))))))); simp) ⟨rfl, (by repeat (first | with_reducible assumption | with_reducible exact Below.refl _ _ | with_reducible refine Below.drew ?_ | with_reducible refine below_drewN ?_ _ | with_reducible refine below_alloc ?_ _ | with_reducible refine Below.alloc ?_ (by first | omega | (simp; done) | (simp; omega)) _ | with_reducible refine Below.setCell ?_ (by first | omega | (simp; done) | (simp; omega)) _ | with_reducible refine below_setRow ?_ (by first | omega | (simp; done) | (simp; omega)) _))⟩
  · obtain ⟨g, cap, cur, rfl, hgB, hG, hcell⟩ := rowN_block hrow HN.out (by have := HN.out; omega)
    simp only [World.size_alloc] at hgB
    have HCELL := hid hcell
    clear hrow hcell
    go_wp2_with fail
    go_loopw [5] (fun i wr => ∃ (k : Nat) (a0 a1 a2 a3 : Int), k ≤ n ∧ i = .int .i64 k ∧ Hid (wr.heap[w.heap.size + 1]? = some (.cells #[.int .i64 a0, .int .i64 a1, .int .i64 a2, .int .i64 a3] 25 (0, 0))) ∧ Hid ((a0, a1, a2, a3) = wholeL (l.take k)) ∧ Hid (wr.heap[w.heap.size]? = some (.cells #[.int .i64 0, .int .i64 0, .int .i64 0, .int .i64 0] 25 (0, 0))) ∧ Hid (wr.heap[g]? = some (.cells cur 34 (0, 0))) ∧ Hid (Below w.heap.size w wr)) (fun i _ => n - (intOf i).toNat)
    case atStart => exact ⟨0, 0, 0, 0, 0, Nat.zero_le _, rfl, hid Z1, hid rfl, hid Z0, hid hG, hid B1⟩
    case round =>
      obtain ⟨k, a0, a1, a2, a3, hkn, rfl, HX, HV, HZ, HG, HB⟩ := hrel
      clear Z0 Z1 hG B1
      have b0 : wr.cell? ⟨w.heap.size + 1, 0, none⟩ = some (.int .i64 a0) := (blk_cell HX.out 0).trans rfl
      have b1 : wr.cell? ⟨w.heap.size + 1, 1, none⟩ = some (.int .i64 a1) := (blk_cell HX.out 1).trans rfl
      have b2 : wr.cell? ⟨w.heap.size + 1, 2, none⟩ = some (.int .i64 a2) := (blk_cell HX.out 2).trans rfl
      have b3 : wr.cell? ⟨w.heap.size + 1, 3, none⟩ = some (.int .i64 a3) := (blk_cell HX.out 3).trans rfl
      have bf := blk_free HX.out
      have hl1 := lt_of_at HX.out
      have hlg := lt_of_at HG.out
      have hl0 := lt_of_at HZ.out
      by_cases hk : k < n
      · have hkl : k < l.length := by have := HN.out; omega
        obtain ⟨x, hx⟩ : ∃ x, x = l[k] := ⟨_, rfl⟩
        have hca : ∀ c, c < 8 → wr.cell? ⟨g, k * 8 + c, none⟩ = (cellsN x)[c]? := fun c hc => by rw [hx]; exact HCELL.out wr HG.out k hkl c hc
        have HK1 : Hid (k + 1 ≤ n) := hk
        have HM1 : Hid (n - (k + 1) < n - k) := by unfold Hid; omega
        have HNX : Hid (wholeL (l.take (k + 1)) = capV (wholeL (l.take k)) x.cap) := by rw [hx]; exact whole_next hkl
        clear hx
        obtain ⟨x0, x1, ⟨x2, x3, x4, x5⟩, x6, x7⟩ := x
        have q0 : wr.cell? ⟨g, k * 8, none⟩ = some (.string x0) := (hca 0 (by omega)).trans rfl
        have q1 : wr.cell? ⟨g, k * 8 + 1, none⟩ = some (.int .i64 x1) := (hca 1 (by omega)).trans rfl
        have q2 : wr.cell? ⟨g, k * 8 + 2, none⟩ = some (.int .i64 x2) := (hca 2 (by omega)).trans rfl
        have q3 : wr.cell? ⟨g, k * 8 + 3, none⟩ = some (.int .i64 x3) := (hca 3 (by omega)).trans rfl
        have q4 : wr.cell? ⟨g, k * 8 + 4, none⟩ = some (.int .i64 x4) := (hca 4 (by omega)).trans rfl
        have q5 : wr.cell? ⟨g, k * 8 + 5, none⟩ = some (.int .i64 x5) := (hca 5 (by omega)).trans rfl
        have q6 : wr.cell? ⟨g, k * 8 + 6, none⟩ = some (.int .i64 x6) := (hca 6 (by omega)).trans rfl
        have q7 : wr.cell? ⟨g, k * 8 + 7, none⟩ = some (.bool x7) := (hca 7 (by omega)).trans rfl
        have s0 : wr.cell? ⟨g, k * 8 + 2 + 0, none⟩ = some (.int .i64 x2) := q2
        have s1 : wr.cell? ⟨g, k * 8 + 2 + 1, none⟩ = some (.int .i64 x3) := q3
        have s2 : wr.cell? ⟨g, k * 8 + 2 + 2, none⟩ = some (.int .i64 x4) := q4
        have s3 : wr.cell? ⟨g, k * 8 + 2 + 3, none⟩ = some (.int .i64 x5) := q5
        have kl : (k : Int) < (n : Int) := by omega
        clear hca
        go_wp2
        refine wp_loop_rounds 5 ?_
        iterate 4 (rw [rounds_succ]; go_wp2; go_region; go_wp2)
        rw [rounds_succ]
        go_wp2
        go_roundw
        case rel => exact ⟨k + 1, capI a0 x2, capI a1 x3, capI a2 x4, capI a3 x5, HK1.out, by go_num, hid (by have hX := HX.out; exact at_of (by apply Exists.intro; refine ⟨?_, ?_⟩; (focus ((repeat (first | (with_reducible assumption) | (with_reducible exact alloc_at _ _) | ((with_reducible apply alloc_at'); (simp; done)) | (with_reducible apply alloc_at_lt) | (with_reducible apply heap_drew_at) | (with_reducible apply heap_drewN_at) | (with_reducible apply heap_setCell_same) | ((with_reducible apply heap_set_ne); (first | omega | (dsimp only; omega) | (simp; done) | (simp; omega))) | (with_reducible apply setRow_at) | ((with_reducible apply setRow_ne); (first | omega | (dsimp only; omega) | (simp; done) | (simp; omega))))))); simp; exact ⟨rfl, rfl, rfl, rfl⟩)), by unfold Hid; rw [HNX.out, ← HV.out]; rfl, hid (by have hZ := HZ.out; exact (by (repeat (first | (with_reducible assumption) | (with_reducible exact alloc_at _ _) | ((with_reducible apply alloc_at'); (simp; done)) | (with_reducible apply alloc_at_lt) | (with_reducible apply heap_drew_at) | (with_reducible apply heap_drewN_at) | (with_reducible apply heap_setCell_same) | ((with_reducible apply heap_set_ne); (first | omega | (dsimp only; omega) | (simp; done) | (simp; omega))) | (with_reducible apply setRow_at) | ((with_reducible apply setRow_ne); (first | omega | (dsimp only; omega) | (simp; done) | (simp; omega))))))), hid (by have hG := HG.out; exact (by (repeat (first | (with_reducible assumption) | (with_reducible exact alloc_at _ _) | ((with_reducible apply alloc_at'); (simp; done)) | (with_reducible apply alloc_at_lt) | (with_reducible apply heap_drew_at) | (with_reducible apply heap_drewN_at) | (with_reducible apply heap_setCell_same) | ((with_reducible apply heap_set_ne); (first | omega | (dsimp only; omega) | (simp; done) | (simp; omega))) | (with_reducible apply setRow_at) | ((with_reducible apply setRow_ne); (first | omega | (dsimp only; omega) | (simp; done) | (simp; omega))))))), hid (by have hB := HB.out; exact (by repeat (first | with_reducible assumption | with_reducible exact Below.refl _ _ | with_reducible refine Below.drew ?_ | with_reducible refine below_drewN ?_ _ | with_reducible refine below_alloc ?_ _ | with_reducible refine Below.alloc ?_ (by first | omega | (simp; done) | (simp; omega)) _ | with_reducible refine Below.setCell ?_ (by first | omega | (simp; done) | (simp; omega)) _ | with_reducible refine below_setRow ?_ (by first | omega | (simp; done) | (simp; omega)) _)))⟩
        case measure => have := HM1.out; simp [intOf]; omega
      · obtain rfl : k = n := by omega
        have hv := HV.out
        rw [HN.out, List.take_length, ← HR.out] at hv
        injection hv with e1 e2
        injection e2 with e2 e3
        injection e3 with e3 e4
        subst e1 e2 e3 e4
        have y0 : wr.cell? ⟨w.heap.size, 0, none⟩ = some (.int .i64 0) := (blk_cell HZ.out 0).trans rfl
        have y1 : wr.cell? ⟨w.heap.size, 1, none⟩ = some (.int .i64 0) := (blk_cell HZ.out 1).trans rfl
        have y2 : wr.cell? ⟨w.heap.size, 2, none⟩ = some (.int .i64 0) := (blk_cell HZ.out 2).trans rfl
        have y3 : wr.cell? ⟨w.heap.size, 3, none⟩ = some (.int .i64 0) := (blk_cell HZ.out 3).trans rfl
        have yf := blk_free HZ.out
        have hz := HZ.out
        have hb := HB.out
        go_wp2
        refine ret_row1 rfl w.heap.size #[.int .i64 a0, .int .i64 a1, .int .i64 a2, .int .i64 a3] 25 _ rfl Try.underlying25 rfl infoVcs rfl (by apply Exists.intro; refine ⟨?_, ?_⟩; (focus ((repeat (first | (with_reducible assumption) | (with_reducible exact alloc_at _ _) | ((with_reducible apply alloc_at'); (simp; done)) | (with_reducible apply alloc_at_lt) | (with_reducible apply heap_drew_at) | (with_reducible apply heap_drewN_at) | (with_reducible apply heap_setCell_same) | ((with_reducible apply heap_set_ne); (first | omega | (dsimp only; omega) | (simp; done) | (simp; omega))) | (with_reducible apply setRow_at) | ((with_reducible apply setRow_ne); (first | omega | (dsimp only; omega) | (simp; done) | (simp; omega))))))); simp) ⟨rfl, (by repeat (first | with_reducible assumption | with_reducible exact Below.refl _ _ | with_reducible refine Below.drew ?_ | with_reducible refine below_drewN ?_ _ | with_reducible refine below_alloc ?_ _ | with_reducible refine Below.alloc ?_ (by first | omega | (simp; done) | (simp; omega)) _ | with_reducible refine Below.setCell ?_ (by first | omega | (simp; done) | (simp; omega)) _ | with_reducible refine below_setRow ?_ (by first | omega | (simp; done) | (simp; omega)) _))⟩
theorem whole_b (B T : Nat) (L : List Nd) (w : World) (h : TabB B w T L) :
    Calls Try.prog 20 #[.pointer (some ⟨T, 0, none⟩)] w fun e w' => e = .returned (.agg #[.int .i64 (wholeL (lives L)).1, .int .i64 (wholeL (lives L)).2.1, .int .i64 (wholeL (lives L)).2.2.1, .int .i64 (wholeL (lives L)).2.2.2]) ∧ Below w.heap.size w w' :=
  whole_of _ (lives L) w (by obtain ⟨_, _, _, h⟩ := h; exact Nat.le_trans (List.length_filter_le _ _) h.len) (fun W hb => live_b B T L W (h.below hb))
theorem whole_nil (w : World) :
    Calls Try.prog 20 #[.pointer none] w fun e w' => e = .returned (.agg #[.int .i64 0, .int .i64 0, .int .i64 0, .int .i64 0]) ∧ Below w.heap.size w w' :=
  whole_of _ [] w (by simp) (fun W _ => live_nil W)
theorem rwhole_any (B R : Nat) (v : Value) (L : List Nd) (w : World) (h : RefN B w R v L) (hm : L.length ≤ 12) :
    Calls Try.prog 21 #[.pointer (some ⟨R, 0, none⟩)] w fun e w' => e = .returned (.agg #[.int .i64 (wholeL (lives L)).1, .int .i64 (wholeL (lives L)).2.1, .int .i64 (wholeL (lives L)).2.2.1, .int .i64 (wholeL (lives L)).2.2.2]) ∧ Below w.heap.size w w' :=
  rwhole_of _ (lives L) w (Nat.le_trans (List.length_filter_le _ _) hm) (fun W hb => rlive_any B R v L W (h.below hb) hm)
end Go.Proofs.Ytkplhobiciddoaa
