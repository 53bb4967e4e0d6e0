/- QueuePlays: one step: the other kinds. -/
import Derived.Test.YtingeijodooocaaQwB
namespace Go.Proofs.Ytingeijodooocaa
open Go.RowKit
variable {w0 w w' : World} {q g c : Nat} {L : List Wt} {u : Wt} {P : Nat → Prop}
theorem Du.rget (h : Du w0 w q g L L c P) (hl : L.length ≤ 1000) (j : Int) :
    Calls Try.prog 36 #[.pointer (some ⟨g, 0, none⟩), .int .i64 j] w fun e w' => e = .returned (.tuple #[wtV (got (fndQ L j)), .int .i64 (gotE (fndQ L j))]) ∧ Below w.heap.size w w' := by
  obtain ⟨v, n, h2⟩ := h.rf
  exact rget_g h2 (by have := h2.len; omega) j
theorem Du.rhead (h : Du w0 w q g L L c P) (hl : L.length ≤ 1000) (s : ByteArray) :
    Calls Try.prog 37 #[.pointer (some ⟨g, 0, none⟩), .string s] w fun e w' => e = .returned (.tuple #[wtV (got (lsQ s.data.toList L).head?), .int .i64 (gotE (lsQ s.data.toList L).head?)]) ∧ Below w.heap.size w w' := by
  obtain ⟨v, n, h2⟩ := h.rf
  exact rhead_g h2 (by have := h2.len; omega) s
theorem Du.rlist (h : Du w0 w q g L L c P) (hl : L.length ≤ 1000) (s : ByteArray) :
    Calls Try.prog 22 #[.pointer (some ⟨g, 0, none⟩), .string s] w fun e w' => ∃ v', e = .returned v' ∧ w'.ownsRow w.heap.size 56 3 v' (lsQ s.data.toList L).length (flatR 3 fW (lsQ s.data.toList L)) ∧ Below w.heap.size w w' := by
  obtain ⟨v, n, h2⟩ := h.rf
  exact rlist_g h2 (by have := h2.len; omega) s
theorem Du.rtens (h : Du w0 w q g L L c P) (hl : L.length ≤ 1000) :
    Calls Try.prog 40 #[.pointer (some ⟨g, 0, none⟩)] w fun e w' => ∃ (v' : Value) (ks : List (List UInt8)), e = .returned v' ∧ IsTn L ks ∧ w'.ownsRow w.heap.size 9 1 v' ks.length (flatR 1 fK ks) ∧ Below w.heap.size w w' := by
  obtain ⟨v, n, h2⟩ := h.rf
  exact rtens_g h2 h.qs.srt (by have := h2.len; omega)
theorem Du.rtop (h : Du w0 w q g L L c P) (hl : L.length ≤ 1000) :
    Calls Try.prog 38 #[.pointer (some ⟨g, 0, none⟩)] w fun e w' => ∃ (v' : Value) (ks : List (List UInt8)), e = .returned (.tuple #[.int .i64 (bestL L), v']) ∧ IsTn L ks ∧ w'.ownsRow w.heap.size 9 1 v' (topT L (bestL L) ks).length (flatR 1 fK (topT L (bestL L) ks)) ∧ Below w.heap.size w w' := by
  obtain ⟨v, n, h2⟩ := h.rf
  exact rtop_g h2 h.qs.srt (by have := h2.len; omega)
set_option maxRecDepth 100000 in
set_option maxHeartbeats 8000000 in
theorem qstep_2 (h : Du w0 w q g L L c (fun _ => False)) (hc : c + 1 ≤ 600) (hu : okW u) : Calls Try.prog 18 #[.pointer (some ⟨q, 0, none⟩), .pointer (some ⟨g, 0, none⟩), oQ 2 u] w fun e w' => e = .returned (.bool true) ∧ Sp w0 w' q g c := by
  have HH := hid h
  have HU := hid hu
  have HC := hid hc
  have hcl := h.qs.len
  have HLL : Hid (L.length ≤ 600) := by unfold Hid; omega
  obtain ⟨j, t, p⟩ := u
  unfold oQ
  simp only
  clear h hu hc hcl
  go_enter Try.func18, Try.ntmps18
  go_upto_region 6 with (fail)
  refine wp_name ?_
  intro w1 hw1
  have A1 : w1.heap[w.heap.size + 1]? = some (.cells #[.int .i64 j, .string t, .int .i64 p] 29 (0, 0)) := by rw [hw1]; exact (by (repeat (first | (with_reducible assumption) | (with_reducible exact alloc_at _ _) | ((with_reducible apply alloc_at'); (simp; done)) | (with_reducible apply alloc_at_lt) | (with_reducible apply heap_drew_at) | (with_reducible apply heap_drewN_at) | (with_reducible apply heap_setCell_same) | ((with_reducible apply heap_set_ne); (first | omega | (dsimp only; omega) | (simp; done) | (simp; omega))) | (with_reducible apply setRow_at) | ((with_reducible apply setRow_ne); (first | omega | (dsimp only; omega) | (simp; done) | (simp; omega))))))
  have b1 : Below w.heap.size w w1 := by rw [hw1]; exact (by repeat (first | with_reducible assumption | with_reducible exact Below.refl _ _ | with_reducible refine Below.drew ?_ | with_reducible refine below_drewN ?_ _ | with_reducible refine below_alloc ?_ _ | with_reducible refine Below.alloc ?_ (by first | omega | (simp; done) | (simp; omega)) _ | with_reducible refine Below.setCell ?_ (by first | omega | (simp; done) | (simp; omega)) _ | with_reducible refine below_setRow ?_ (by first | omega | (simp; done) | (simp; omega)) _))
  obtain ⟨X, hX⟩ : ∃ X, X = w.heap.size + 1 := ⟨_, rfl⟩
  rw [← hX] at A1 ⊢
  have HD1 : Hid (Du w0 w1 q g L L c (fun k => k = X)) := HH.out.add b1 (fun k hk => .inr (by rw [hk, hX]; omega))
  have HA1 := hid A1
  have HXC : Hid (∀ W, Below w1.heap.size w1 W → X < W.heap.size ∧ W.cell? ⟨X, 0, none⟩ = some (.int .i64 j) ∧ W.cell? ⟨X, 1, none⟩ = some (.string t) ∧ W.cell? ⟨X, 2, none⟩ = some (.int .i64 p)) := fun W hb => by
    have hXW := (hb.block _ (lt_of_at HA1.out)).trans HA1.out
    exact ⟨lt_of_at hXW, (blk_cell hXW 0).trans rfl, (blk_cell hXW 1).trans rfl, (blk_cell hXW 2).trans rfl⟩
  clear hw1 b1 hX A1
  obtain ⟨E, hE⟩ : ∃ E, E = remE L j := ⟨_, rfl⟩
  have HE := hid hE
  have HPU : Hid (∀ W, Below w1.heap.size w1 W → Calls Try.prog 17 #[.pointer (some ⟨q, 0, none⟩), .int .i64 j] W fun e w' => e = .returned (.int .i64 E) ∧ Du w0 w' q g (delQ j L) L c (fun k => k = X) ∧ w'.heap[X]? = some (.cells #[.int .i64 j, .string t, .int .i64 p] 29 (0, 0))) := fun W hb => by
    have hXW : W.heap[X]? = some (.cells #[.int .i64 j, .string t, .int .i64 p] 29 (0, 0)) := (hb.block _ (lt_of_at HA1.out)).trans HA1.out
    have := du_rem (HD1.out.below hb) (fun k hk => by rw [hk]; exact lt_of_at hXW) j HU.out.2.1
    refine this.mono ?_
    rintro e w' ⟨rfl, h2, h3⟩
    exact ⟨by rw [HE.out], h2, (h3.2 X rfl (lt_of_at hXW)).trans hXW⟩
  have HRP : Hid (∀ W2 W, Du w0 W2 q g (delQ j L) L c (fun k => k = X) → W2.heap[X]? = some (.cells #[.int .i64 j, .string t, .int .i64 p] 29 (0, 0)) → Below W2.heap.size W2 W → Calls Try.prog 35 #[.pointer (some ⟨g, 0, none⟩), .int .i64 j] W fun e w' => e = .returned (.int .i64 E) ∧ Du w0 w' q g (delQ j L) (delQ j L) c (fun k => k = X) ∧ w'.heap[X]? = some (.cells #[.int .i64 j, .string t, .int .i64 p] 29 (0, 0))) := fun W2 W hd hx hb => by
    have hXW : W.heap[X]? = some (.cells #[.int .i64 j, .string t, .int .i64 p] 29 (0, 0)) := (hb.block _ (lt_of_at hx)).trans hx
    have := du_rrem (hd.below hb) HH.out.qs.srt (by have := HLL.out; omega) (fun k hk => by rw [hk]; exact lt_of_at hXW) j
    refine this.mono ?_
    rintro e w' ⟨rfl, h2, h3⟩
    exact ⟨by rw [HE.out], h2, (h3.2 X rfl (lt_of_at hXW)).trans hXW⟩
  obtain ⟨xl, x0, -, -⟩ := HXC.out w1 (Below.refl _ _)
  clear hE
  go_region_held3 (fun w' => w'.cell? ⟨X, 0, none⟩ = some (.int .i64 j)) ((first | (with_reducible assumption) | (go_keep; done))) (first
    | (go_at_call 17; refine (HPU.out _ (by repeat (first | with_reducible assumption | with_reducible exact Below.refl _ _ | with_reducible refine Below.drew ?_ | with_reducible refine below_drewN ?_ _ | with_reducible refine below_alloc ?_ _ | with_reducible refine Below.alloc ?_ (by first | omega | (simp; done) | (simp; omega)) _ | with_reducible refine Below.setCell ?_ (by first | omega | (simp; done) | (simp; omega)) _ | with_reducible refine below_setRow ?_ (by first | omega | (simp; done) | (simp; omega)) _))).mono ?_; rintro e w2 ⟨rfl, hd2, hx2⟩; have x20 : w2.cell? ⟨X, 0, none⟩ = some (.int .i64 j) := (blk_cell hx2 0).trans rfl; have HD2 := hid hd2; have HX2 := hid hx2; clear hd2 hx2)
    | (go_at_call 35; refine (HRP.out w2 _ HD2.out HX2.out (by repeat (first | with_reducible assumption | with_reducible exact Below.refl _ _ | with_reducible refine Below.drew ?_ | with_reducible refine below_drewN ?_ _ | with_reducible refine below_alloc ?_ _ | with_reducible refine Below.alloc ?_ (by first | omega | (simp; done) | (simp; omega)) _ | with_reducible refine Below.setCell ?_ (by first | omega | (simp; done) | (simp; omega)) _ | with_reducible refine below_setRow ?_ (by first | omega | (simp; done) | (simp; omega)) _))).mono ?_; rintro e w4 ⟨rfl, hd4, hx4⟩; have x40 : w4.cell? ⟨X, 0, none⟩ = some (.int .i64 j) := (blk_cell hx4 0).trans rfl; have HD4 := hid hd4; clear hd4 hx4))
  all_goals
    have hEE : (E == E) = true := by simp
    go_wp2
    go_ret
    exact ⟨by simp, Sp.of (HD4.out.more (Nat.le_succ c) (by have := HC.out; omega)) (by repeat (first | with_reducible assumption | with_reducible exact Below.refl _ _ | with_reducible refine Below.drew ?_ | with_reducible refine below_drewN ?_ _ | with_reducible refine below_alloc ?_ _ | with_reducible refine Below.alloc ?_ (by first | omega | (simp; done) | (simp; omega)) _ | with_reducible refine Below.setCell ?_ (by first | omega | (simp; done) | (simp; omega)) _ | with_reducible refine below_setRow ?_ (by first | omega | (simp; done) | (simp; omega)) _))⟩
set_option maxRecDepth 100000 in
set_option maxHeartbeats 8000000 in
theorem qstep_3 (h : Du w0 w q g L L c (fun _ => False)) (hc : c + 1 ≤ 600) (hu : okW u) : Calls Try.prog 18 #[.pointer (some ⟨q, 0, none⟩), .pointer (some ⟨g, 0, none⟩), oQ 3 u] w fun e w' => e = .returned (.bool true) ∧ Sp w0 w' q g c := by
  have HH := hid h
  have HU := hid hu
  have HC := hid hc
  have hcl := h.qs.len
  have HLL : Hid (L.length ≤ 600) := by unfold Hid; omega
  obtain ⟨j, t, p⟩ := u
  unfold oQ
  simp only
  clear h hu hc hcl
  go_enter Try.func18, Try.ntmps18
  go_upto_region 8 with (fail)
  refine wp_name ?_
  intro w1 hw1
  have A1 : w1.heap[w.heap.size + 1]? = some (.cells #[.int .i64 j, .string t, .int .i64 p] 29 (0, 0)) := by rw [hw1]; exact (by (repeat (first | (with_reducible assumption) | (with_reducible exact alloc_at _ _) | ((with_reducible apply alloc_at'); (simp; done)) | (with_reducible apply alloc_at_lt) | (with_reducible apply heap_drew_at) | (with_reducible apply heap_drewN_at) | (with_reducible apply heap_setCell_same) | ((with_reducible apply heap_set_ne); (first | omega | (dsimp only; omega) | (simp; done) | (simp; omega))) | (with_reducible apply setRow_at) | ((with_reducible apply setRow_ne); (first | omega | (dsimp only; omega) | (simp; done) | (simp; omega))))))
  have b1 : Below w.heap.size w w1 := by rw [hw1]; exact (by repeat (first | with_reducible assumption | with_reducible exact Below.refl _ _ | with_reducible refine Below.drew ?_ | with_reducible refine below_drewN ?_ _ | with_reducible refine below_alloc ?_ _ | with_reducible refine Below.alloc ?_ (by first | omega | (simp; done) | (simp; omega)) _ | with_reducible refine Below.setCell ?_ (by first | omega | (simp; done) | (simp; omega)) _ | with_reducible refine below_setRow ?_ (by first | omega | (simp; done) | (simp; omega)) _))
  obtain ⟨X, hX⟩ : ∃ X, X = w.heap.size + 1 := ⟨_, rfl⟩
  rw [← hX] at A1 ⊢
  have HD1 : Hid (Du w0 w1 q g L L c (fun k => k = X)) := HH.out.add b1 (fun k hk => .inr (by rw [hk, hX]; omega))
  have HA1 := hid A1
  have HXC : Hid (∀ W, Below w1.heap.size w1 W → X < W.heap.size ∧ W.cell? ⟨X, 0, none⟩ = some (.int .i64 j) ∧ W.cell? ⟨X, 1, none⟩ = some (.string t) ∧ W.cell? ⟨X, 2, none⟩ = some (.int .i64 p)) := fun W hb => by
    have hXW := (hb.block _ (lt_of_at HA1.out)).trans HA1.out
    exact ⟨lt_of_at hXW, (blk_cell hXW 0).trans rfl, (blk_cell hXW 1).trans rfl, (blk_cell hXW 2).trans rfl⟩
  clear hw1 b1 hX A1
  obtain ⟨E, hE⟩ : ∃ E, E = gotE (fndQ L j) := ⟨_, rfl⟩
  obtain ⟨y, hy⟩ : ∃ y, y = got (fndQ L j) := ⟨_, rfl⟩
  obtain ⟨a, s, d⟩ := y
  have HG : Hid (∀ W, Below w1.heap.size w1 W → Calls Try.prog 16 #[.pointer (some ⟨q, 0, none⟩), .int .i64 j] W fun e w' => e = .returned (.tuple #[.agg #[.int .i64 a, .string s, .int .i64 d], .int .i64 E]) ∧ Below W.heap.size W w') := fun W hb => by
    have := qs_get (HD1.out.below hb).qs j HU.out.2.1
    rw [← hy, ← hE] at this
    exact this
  have HR : Hid (∀ W, Below w1.heap.size w1 W → Calls Try.prog 36 #[.pointer (some ⟨g, 0, none⟩), .int .i64 j] W fun e w' => e = .returned (.tuple #[.agg #[.int .i64 a, .string s, .int .i64 d], .int .i64 E]) ∧ Below W.heap.size W w') := fun W hb => by
    have := (HD1.out.below hb).rget (by have := HLL.out; omega) j
    rw [← hy, ← hE] at this
    exact this
  have HPL := hid (plain_q a d s)
  obtain ⟨xl, x0, x1, x2⟩ := HXC.out w1 (Below.refl _ _)
  clear hE hy
  go_wp2_with fail
  refine (HG.out _ (by repeat (first | with_reducible assumption | with_reducible exact Below.refl _ _ | with_reducible refine Below.drew ?_ | with_reducible refine below_drewN ?_ _ | with_reducible refine below_alloc ?_ _ | with_reducible refine Below.alloc ?_ (by first | omega | (simp; done) | (simp; omega)) _ | with_reducible refine Below.setCell ?_ (by first | omega | (simp; done) | (simp; omega)) _ | with_reducible refine below_setRow ?_ (by first | omega | (simp; done) | (simp; omega)) _))).mono ?_
  rintro e w2 ⟨rfl, hb2⟩
  have hs2 := hb2.size
  clear xl x0 x1 x2
  obtain ⟨xl, x0, x1, x2⟩ := HXC.out w2 hb2
  have HB2 := hid hb2
  clear hb2
  have HR2 : Hid (∀ W, Below w2.heap.size w2 W → Calls Try.prog 36 #[.pointer (some ⟨g, 0, none⟩), .int .i64 j] W fun e w' => e = .returned (.tuple #[.agg #[.int .i64 a, .string s, .int .i64 d], .int .i64 E]) ∧ Below W.heap.size W w') := fun W hb => HR.out W (HB2.out.trans (hb.mono HB2.out.size))
  go_wp2_with fail
  refine (HR2.out _ (by repeat (first | with_reducible assumption | with_reducible exact Below.refl _ _ | with_reducible refine Below.drew ?_ | with_reducible refine below_drewN ?_ _ | with_reducible refine below_alloc ?_ _ | with_reducible refine Below.alloc ?_ (by first | omega | (simp; done) | (simp; omega)) _ | with_reducible refine Below.setCell ?_ (by first | omega | (simp; done) | (simp; omega)) _ | with_reducible refine below_setRow ?_ (by first | omega | (simp; done) | (simp; omega)) _))).mono ?_
  rintro e w3 ⟨rfl, hb3⟩
  have Y3 : w3.heap[w2.heap.size]? = some (.cells #[.int .i64 a, .string s, .int .i64 d] 29 (0, 0)) := (hb3.block _ (by simp)).trans (by (repeat (first | (with_reducible assumption) | (with_reducible exact alloc_at _ _) | ((with_reducible apply alloc_at'); (simp; done)) | (with_reducible apply alloc_at_lt) | (with_reducible apply heap_drew_at) | (with_reducible apply heap_drewN_at) | (with_reducible apply heap_setCell_same) | ((with_reducible apply heap_set_ne); (first | omega | (dsimp only; omega) | (simp; done) | (simp; omega))) | (with_reducible apply setRow_at) | ((with_reducible apply setRow_ne); (first | omega | (dsimp only; omega) | (simp; done) | (simp; omega))))))
  have hs3 := hb3.size
  simp only [World.size_alloc] at hs3
  have hb23 : Below w2.heap.size w2 w3 := Below.trans (by repeat (first | with_reducible assumption | with_reducible exact Below.refl _ _ | with_reducible refine Below.drew ?_ | with_reducible refine below_drewN ?_ _ | with_reducible refine below_alloc ?_ _ | with_reducible refine Below.alloc ?_ (by first | omega | (simp; done) | (simp; omega)) _ | with_reducible refine Below.setCell ?_ (by first | omega | (simp; done) | (simp; omega)) _ | with_reducible refine below_setRow ?_ (by first | omega | (simp; done) | (simp; omega)) _)) (hb3.mono (by first | omega | (simp; done) | (simp; omega)))
  have HB3 : Hid (Below w1.heap.size w1 w3) := HB2.out.trans (hb23.mono HB2.out.size)
  clear xl x0 x1 x2 hb3 HR2
  obtain ⟨xl, x0, x1, x2⟩ := HXC.out w3 HB3.out
  obtain ⟨Y, hY⟩ : ∃ Y, Y = w2.heap.size := ⟨_, rfl⟩
  rw [← hY] at Y3 ⊢
  have hYl := lt_of_at Y3
  clear hb23 hs2 hs3 hY
  go_upto_region 10 with fail
  refine wp_name ?_
  intro w4 hw4
  have Z4 : w4.heap[w3.heap.size]? = some (.cells #[.int .i64 a, .string s, .int .i64 d] 56 (0, 0)) := by rw [hw4]; exact (by (repeat (first | (with_reducible assumption) | (with_reducible exact alloc_at _ _) | ((with_reducible apply alloc_at'); (simp; done)) | (with_reducible apply alloc_at_lt) | (with_reducible apply heap_drew_at) | (with_reducible apply heap_drewN_at) | (with_reducible apply heap_setCell_same) | ((with_reducible apply heap_set_ne); (first | omega | (dsimp only; omega) | (simp; done) | (simp; omega))) | (with_reducible apply setRow_at) | ((with_reducible apply setRow_ne); (first | omega | (dsimp only; omega) | (simp; done) | (simp; omega))))))
  have Y4 : w4.heap[Y]? = some (.cells #[.int .i64 a, .string s, .int .i64 d] 29 (0, 0)) := by rw [hw4]; exact (by (repeat (first | (with_reducible assumption) | (with_reducible exact alloc_at _ _) | ((with_reducible apply alloc_at'); (simp; done)) | (with_reducible apply alloc_at_lt) | (with_reducible apply heap_drew_at) | (with_reducible apply heap_drewN_at) | (with_reducible apply heap_setCell_same) | ((with_reducible apply heap_set_ne); (first | omega | (dsimp only; omega) | (simp; done) | (simp; omega))) | (with_reducible apply setRow_at) | ((with_reducible apply setRow_ne); (first | omega | (dsimp only; omega) | (simp; done) | (simp; omega))))))
  have hb4 : Below w3.heap.size w3 w4 := by rw [hw4]; exact (by repeat (first | with_reducible assumption | with_reducible exact Below.refl _ _ | with_reducible refine Below.drew ?_ | with_reducible refine below_drewN ?_ _ | with_reducible refine below_alloc ?_ _ | with_reducible refine Below.alloc ?_ (by first | omega | (simp; done) | (simp; omega)) _ | with_reducible refine Below.setCell ?_ (by first | omega | (simp; done) | (simp; omega)) _ | with_reducible refine below_setRow ?_ (by first | omega | (simp; done) | (simp; omega)) _))
  obtain ⟨Z, hZ⟩ : ∃ Z, Z = w3.heap.size := ⟨_, rfl⟩
  rw [← hZ] at Z4 ⊢
  have HB4 : Hid (Below w1.heap.size w1 w4) := HB3.out.trans (hb4.mono HB3.out.size)
  clear xl x0 x1 x2 hb4 hw4 hZ
  obtain ⟨xl, x0, x1, x2⟩ := HXC.out w4 HB4.out
  have y0 : w4.cell? ⟨Y, 0, none⟩ = some (.int .i64 a) := (blk_cell Y4 0).trans rfl
  have y1 : w4.cell? ⟨Y, 1, none⟩ = some (.string s) := (blk_cell Y4 1).trans rfl
  have y2 : w4.cell? ⟨Y, 2, none⟩ = some (.int .i64 d) := (blk_cell Y4 2).trans rfl
  have z0 : w4.cell? ⟨Z, 0, none⟩ = some (.int .i64 a) := (blk_cell Z4 0).trans rfl
  have z1 : w4.cell? ⟨Z, 1, none⟩ = some (.string s) := (blk_cell Z4 1).trans rfl
  have z2 : w4.cell? ⟨Z, 2, none⟩ = some (.int .i64 d) := (blk_cell Z4 2).trans rfl
  have yl := lt_of_at Y4
  have zl := lt_of_at Z4
  have hEq := eqWr a d s
  have hEE : (E == E) = true := by simp
  clear Y3 Y4 Z4 hYl
  go_region_held3 (fun w' => Below w4.heap.size w4 w' ∧ (∀ b o, b < w4.heap.size → w'.cell? ⟨b, o, none⟩ = w4.cell? ⟨b, o, none⟩) ∧ ∀ b o, b < w4.heap.size → w'.frozen? ⟨b, o, none⟩ = w4.frozen? ⟨b, o, none⟩) (first | ((try go_split_ands); (try dsimp only); refine same_of ?_; (repeat (first | with_reducible assumption | with_reducible exact Below.refl _ _ | with_reducible refine Below.drew ?_ | with_reducible refine below_drewN ?_ _ | with_reducible refine below_alloc ?_ _ | with_reducible refine Below.alloc ?_ (by first | omega | (simp; done) | (simp; omega)) _ | with_reducible refine Below.setCell ?_ (by first | omega | (simp; done) | (simp; omega)) _ | with_reducible refine below_setRow ?_ (by first | omega | (simp; done) | (simp; omega)) _)); done) | ((try go_split_ands); (try dsimp only); refine same_of ?_; (repeat (first | with_reducible refine below_call ?_ hb9 | with_reducible assumption | with_reducible exact Below.refl _ _ | with_reducible refine Below.drew ?_ | with_reducible refine below_alloc ?_ _ | with_reducible refine Below.setCell ?_ (by (try have qz_hb9 := hb9.size); (try simp only [World.size_alloc, World.size_setCell, heap_drew] at qz_hb9); (try (obtain ⟨qy_hb9, -, -⟩ : Below _ _ w9 ∧ _ ∧ _ := by assumption; have qx_hb9 := qy_hb9.size)); first | omega | (dsimp only; omega)) _)); done)) ((go_at_call 20; refine (HPL.out _).mono ?_; rintro e w9 ⟨rfl, hb9⟩; obtain ⟨hc9, hf9⟩ := bcell hb9))
  all_goals
    have hbw : Below w4.heap.size w4 w9 := (Below.drew (Below.refl _ _)).trans (hb9.mono (by simp [heap_drew]))
    have FIN := hid (HD1.out.below (HB4.out.trans (hbw.mono HB4.out.size)))
    clear hbw hb9 hc9 hf9 x0 x1 x2 y0 y1 y2 z0 z1 z2
    go_wp2
    go_ret
    exact ⟨by simp, Sp.of (FIN.out.more (Nat.le_succ c) (by have := HC.out; omega)) (by repeat (first | with_reducible assumption | with_reducible exact Below.refl _ _ | with_reducible refine Below.drew ?_ | with_reducible refine below_drewN ?_ _ | with_reducible refine below_alloc ?_ _ | with_reducible refine Below.alloc ?_ (by first | omega | (simp; done) | (simp; omega)) _ | with_reducible refine Below.setCell ?_ (by first | omega | (simp; done) | (simp; omega)) _ | with_reducible refine below_setRow ?_ (by first | omega | (simp; done) | (simp; omega)) _))⟩
set_option maxRecDepth 100000 in
set_option maxHeartbeats 8000000 in
theorem qstep_4 (h : Du w0 w q g L L c (fun _ => False)) (hc : c + 1 ≤ 600) (hu : okW u) : Calls Try.prog 18 #[.pointer (some ⟨q, 0, none⟩), .pointer (some ⟨g, 0, none⟩), oQ 4 u] w fun e w' => e = .returned (.bool true) ∧ Sp w0 w' q g c := by
  have HH := hid h
  have HU := hid hu
  have HC := hid hc
  have hcl := h.qs.len
  have HLL : Hid (L.length ≤ 600) := by unfold Hid; omega
  obtain ⟨j, t, p⟩ := u
  unfold oQ
  simp only
  clear h hu hc hcl
  go_enter Try.func18, Try.ntmps18
  go_upto_region 12 with (fail)
  refine wp_name ?_
  intro w1 hw1
  have A1 : w1.heap[w.heap.size + 1]? = some (.cells #[.int .i64 j, .string t, .int .i64 p] 29 (0, 0)) := by rw [hw1]; exact (by (repeat (first | (with_reducible assumption) | (with_reducible exact alloc_at _ _) | ((with_reducible apply alloc_at'); (simp; done)) | (with_reducible apply alloc_at_lt) | (with_reducible apply heap_drew_at) | (with_reducible apply heap_drewN_at) | (with_reducible apply heap_setCell_same) | ((with_reducible apply heap_set_ne); (first | omega | (dsimp only; omega) | (simp; done) | (simp; omega))) | (with_reducible apply setRow_at) | ((with_reducible apply setRow_ne); (first | omega | (dsimp only; omega) | (simp; done) | (simp; omega))))))
  have b1 : Below w.heap.size w w1 := by rw [hw1]; exact (by repeat (first | with_reducible assumption | with_reducible exact Below.refl _ _ | with_reducible refine Below.drew ?_ | with_reducible refine below_drewN ?_ _ | with_reducible refine below_alloc ?_ _ | with_reducible refine Below.alloc ?_ (by first | omega | (simp; done) | (simp; omega)) _ | with_reducible refine Below.setCell ?_ (by first | omega | (simp; done) | (simp; omega)) _ | with_reducible refine below_setRow ?_ (by first | omega | (simp; done) | (simp; omega)) _))
  obtain ⟨X, hX⟩ : ∃ X, X = w.heap.size + 1 := ⟨_, rfl⟩
  rw [← hX] at A1 ⊢
  have HD1 : Hid (Du w0 w1 q g L L c (fun k => k = X)) := HH.out.add b1 (fun k hk => .inr (by rw [hk, hX]; omega))
  have HA1 := hid A1
  have HXC : Hid (∀ W, Below w1.heap.size w1 W → X < W.heap.size ∧ W.cell? ⟨X, 0, none⟩ = some (.int .i64 j) ∧ W.cell? ⟨X, 1, none⟩ = some (.string t) ∧ W.cell? ⟨X, 2, none⟩ = some (.int .i64 p)) := fun W hb => by
    have hXW := (hb.block _ (lt_of_at HA1.out)).trans HA1.out
    exact ⟨lt_of_at hXW, (blk_cell hXW 0).trans rfl, (blk_cell hXW 1).trans rfl, (blk_cell hXW 2).trans rfl⟩
  clear hw1 b1 hX A1
  obtain ⟨E, hE⟩ : ∃ E, E = gotE (lsQ t.data.toList L).head? := ⟨_, rfl⟩
  obtain ⟨y, hy⟩ : ∃ y, y = got (lsQ t.data.toList L).head? := ⟨_, rfl⟩
  obtain ⟨a, s, d⟩ := y
  have HG : Hid (∀ W, Below w1.heap.size w1 W → Calls Try.prog 13 #[.pointer (some ⟨q, 0, none⟩), .string t] W fun e w' => e = .returned (.tuple #[.agg #[.int .i64 a, .string s, .int .i64 d], .int .i64 E]) ∧ Below W.heap.size W w') := fun W hb => by
    have := qs_head (HD1.out.below hb).qs (s := t) HU.out.1
    rw [← hy, ← hE] at this
    exact this
  have HR : Hid (∀ W, Below w1.heap.size w1 W → Calls Try.prog 37 #[.pointer (some ⟨g, 0, none⟩), .string t] W fun e w' => e = .returned (.tuple #[.agg #[.int .i64 a, .string s, .int .i64 d], .int .i64 E]) ∧ Below W.heap.size W w') := fun W hb => by
    have := (HD1.out.below hb).rhead (by have := HLL.out; omega) t
    rw [← hy, ← hE] at this
    exact this
  have HPL := hid (plain_q a d s)
  obtain ⟨xl, x0, x1, x2⟩ := HXC.out w1 (Below.refl _ _)
  clear hE hy
  go_wp2_with fail
  refine (HG.out _ (by repeat (first | with_reducible assumption | with_reducible exact Below.refl _ _ | with_reducible refine Below.drew ?_ | with_reducible refine below_drewN ?_ _ | with_reducible refine below_alloc ?_ _ | with_reducible refine Below.alloc ?_ (by first | omega | (simp; done) | (simp; omega)) _ | with_reducible refine Below.setCell ?_ (by first | omega | (simp; done) | (simp; omega)) _ | with_reducible refine below_setRow ?_ (by first | omega | (simp; done) | (simp; omega)) _))).mono ?_
  rintro e w2 ⟨rfl, hb2⟩
  have hs2 := hb2.size
  clear xl x0 x1 x2
  obtain ⟨xl, x0, x1, x2⟩ := HXC.out w2 hb2
  have HB2 := hid hb2
  clear hb2
  have HR2 : Hid (∀ W, Below w2.heap.size w2 W → Calls Try.prog 37 #[.pointer (some ⟨g, 0, none⟩), .string t] W fun e w' => e = .returned (.tuple #[.agg #[.int .i64 a, .string s, .int .i64 d], .int .i64 E]) ∧ Below W.heap.size W w') := fun W hb => HR.out W (HB2.out.trans (hb.mono HB2.out.size))
  go_wp2_with fail
  refine (HR2.out _ (by repeat (first | with_reducible assumption | with_reducible exact Below.refl _ _ | with_reducible refine Below.drew ?_ | with_reducible refine below_drewN ?_ _ | with_reducible refine below_alloc ?_ _ | with_reducible refine Below.alloc ?_ (by first | omega | (simp; done) | (simp; omega)) _ | with_reducible refine Below.setCell ?_ (by first | omega | (simp; done) | (simp; omega)) _ | with_reducible refine below_setRow ?_ (by first | omega | (simp; done) | (simp; omega)) _))).mono ?_
  rintro e w3 ⟨rfl, hb3⟩
  have Y3 : w3.heap[w2.heap.size]? = some (.cells #[.int .i64 a, .string s, .int .i64 d] 29 (0, 0)) := (hb3.block _ (by simp)).trans (by (repeat (first | (with_reducible assumption) | (with_reducible exact alloc_at _ _) | ((with_reducible apply alloc_at'); (simp; done)) | (with_reducible apply alloc_at_lt) | (with_reducible apply heap_drew_at) | (with_reducible apply heap_drewN_at) | (with_reducible apply heap_setCell_same) | ((with_reducible apply heap_set_ne); (first | omega | (dsimp only; omega) | (simp; done) | (simp; omega))) | (with_reducible apply setRow_at) | ((with_reducible apply setRow_ne); (first | omega | (dsimp only; omega) | (simp; done) | (simp; omega))))))
  have hs3 := hb3.size
  simp only [World.size_alloc] at hs3
  have hb23 : Below w2.heap.size w2 w3 := Below.trans (by repeat (first | with_reducible assumption | with_reducible exact Below.refl _ _ | with_reducible refine Below.drew ?_ | with_reducible refine below_drewN ?_ _ | with_reducible refine below_alloc ?_ _ | with_reducible refine Below.alloc ?_ (by first | omega | (simp; done) | (simp; omega)) _ | with_reducible refine Below.setCell ?_ (by first | omega | (simp; done) | (simp; omega)) _ | with_reducible refine below_setRow ?_ (by first | omega | (simp; done) | (simp; omega)) _)) (hb3.mono (by first | omega | (simp; done) | (simp; omega)))
  have HB3 : Hid (Below w1.heap.size w1 w3) := HB2.out.trans (hb23.mono HB2.out.size)
  clear xl x0 x1 x2 hb3 HR2
  obtain ⟨xl, x0, x1, x2⟩ := HXC.out w3 HB3.out
  obtain ⟨Y, hY⟩ : ∃ Y, Y = w2.heap.size := ⟨_, rfl⟩
  rw [← hY] at Y3 ⊢
  have hYl := lt_of_at Y3
  clear hb23 hs2 hs3 hY
  go_upto_region 14 with fail
  refine wp_name ?_
  intro w4 hw4
  have Z4 : w4.heap[w3.heap.size]? = some (.cells #[.int .i64 a, .string s, .int .i64 d] 56 (0, 0)) := by rw [hw4]; exact (by (repeat (first | (with_reducible assumption) | (with_reducible exact alloc_at _ _) | ((with_reducible apply alloc_at'); (simp; done)) | (with_reducible apply alloc_at_lt) | (with_reducible apply heap_drew_at) | (with_reducible apply heap_drewN_at) | (with_reducible apply heap_setCell_same) | ((with_reducible apply heap_set_ne); (first | omega | (dsimp only; omega) | (simp; done) | (simp; omega))) | (with_reducible apply setRow_at) | ((with_reducible apply setRow_ne); (first | omega | (dsimp only; omega) | (simp; done) | (simp; omega))))))
  have Y4 : w4.heap[Y]? = some (.cells #[.int .i64 a, .string s, .int .i64 d] 29 (0, 0)) := by rw [hw4]; exact (by (repeat (first | (with_reducible assumption) | (with_reducible exact alloc_at _ _) | ((with_reducible apply alloc_at'); (simp; done)) | (with_reducible apply alloc_at_lt) | (with_reducible apply heap_drew_at) | (with_reducible apply heap_drewN_at) | (with_reducible apply heap_setCell_same) | ((with_reducible apply heap_set_ne); (first | omega | (dsimp only; omega) | (simp; done) | (simp; omega))) | (with_reducible apply setRow_at) | ((with_reducible apply setRow_ne); (first | omega | (dsimp only; omega) | (simp; done) | (simp; omega))))))
  have hb4 : Below w3.heap.size w3 w4 := by rw [hw4]; exact (by repeat (first | with_reducible assumption | with_reducible exact Below.refl _ _ | with_reducible refine Below.drew ?_ | with_reducible refine below_drewN ?_ _ | with_reducible refine below_alloc ?_ _ | with_reducible refine Below.alloc ?_ (by first | omega | (simp; done) | (simp; omega)) _ | with_reducible refine Below.setCell ?_ (by first | omega | (simp; done) | (simp; omega)) _ | with_reducible refine below_setRow ?_ (by first | omega | (simp; done) | (simp; omega)) _))
  obtain ⟨Z, hZ⟩ : ∃ Z, Z = w3.heap.size := ⟨_, rfl⟩
  rw [← hZ] at Z4 ⊢
  have HB4 : Hid (Below w1.heap.size w1 w4) := HB3.out.trans (hb4.mono HB3.out.size)
  clear xl x0 x1 x2 hb4 hw4 hZ
  obtain ⟨xl, x0, x1, x2⟩ := HXC.out w4 HB4.out
  have y0 : w4.cell? ⟨Y, 0, none⟩ = some (.int .i64 a) := (blk_cell Y4 0).trans rfl
  have y1 : w4.cell? ⟨Y, 1, none⟩ = some (.string s) := (blk_cell Y4 1).trans rfl
  have y2 : w4.cell? ⟨Y, 2, none⟩ = some (.int .i64 d) := (blk_cell Y4 2).trans rfl
  have z0 : w4.cell? ⟨Z, 0, none⟩ = some (.int .i64 a) := (blk_cell Z4 0).trans rfl
  have z1 : w4.cell? ⟨Z, 1, none⟩ = some (.string s) := (blk_cell Z4 1).trans rfl
  have z2 : w4.cell? ⟨Z, 2, none⟩ = some (.int .i64 d) := (blk_cell Z4 2).trans rfl
  have yl := lt_of_at Y4
  have zl := lt_of_at Z4
  have hEq := eqWr a d s
  have hEE : (E == E) = true := by simp
  clear Y3 Y4 Z4 hYl
  obtain ⟨M, hM⟩ : ∃ M, M = lsQ t.data.toList L := ⟨_, rfl⟩
  have HML : Hid (M.length ≤ 600) := by
    have h1 : (lsQ t.data.toList L).length ≤ L.length := List.length_filter_le _ _
    have := HLL.out
    rw [← hM] at h1
    unfold Hid
    omega
  obtain ⟨N, hN⟩ : ∃ N, N = M.length := ⟨_, rfl⟩
  have HNB : Hid (N ≤ 100000) := by have := HML.out; unfold Hid; omega
  have HLs : Hid (∀ W, Below w4.heap.size w4 W → Calls Try.prog 14 #[.pointer (some ⟨q, 0, none⟩), .string t] W fun e w' => ∃ v, e = .returned v ∧ w'.ownsRow W.heap.size 29 3 v N (flatR 3 fW M) ∧ Below W.heap.size W w') := fun W hb => by
    have := qs_list (HD1.out.below (HB4.out.trans (hb.mono HB4.out.size))).qs t
    rw [← hM, ← hN] at this
    exact this
  have HRs : Hid (∀ W, Below w4.heap.size w4 W → Calls Try.prog 22 #[.pointer (some ⟨g, 0, none⟩), .string t] W fun e w' => ∃ v, e = .returned v ∧ w'.ownsRow W.heap.size 56 3 v N (flatR 3 fW M) ∧ Below W.heap.size W w') := fun W hb => by
    have := (HD1.out.below (HB4.out.trans (hb.mono HB4.out.size))).rlist (by have := HLL.out; omega) t
    rw [← hM, ← hN] at this
    exact this
  clear hM hN
  go_region_held3 (fun w' => Below w4.heap.size w4 w' ∧ (∀ b o, b < w4.heap.size → w'.cell? ⟨b, o, none⟩ = w4.cell? ⟨b, o, none⟩) ∧ ∀ b o, b < w4.heap.size → w'.frozen? ⟨b, o, none⟩ = w4.frozen? ⟨b, o, none⟩) (first | ((try go_split_ands); (try dsimp only); refine same_of ?_; (repeat (first | with_reducible assumption | with_reducible exact Below.refl _ _ | with_reducible refine Below.drew ?_ | with_reducible refine below_drewN ?_ _ | with_reducible refine below_alloc ?_ _ | with_reducible refine Below.alloc ?_ (by first | omega | (simp; done) | (simp; omega)) _ | with_reducible refine Below.setCell ?_ (by first | omega | (simp; done) | (simp; omega)) _ | with_reducible refine below_setRow ?_ (by first | omega | (simp; done) | (simp; omega)) _)); done) | ((try go_split_ands); (try dsimp only); refine same_of ?_; (repeat (first | with_reducible refine below_call ?_ hb5 | with_reducible refine below_call ?_ hb6 | with_reducible refine below_call ?_ hb7 | with_reducible refine below_call ?_ hb8 | with_reducible assumption | with_reducible exact Below.refl _ _ | with_reducible refine Below.drew ?_ | with_reducible refine below_alloc ?_ _ | with_reducible refine Below.setCell ?_ (by (try have qz_hb5 := hb5.size); (try simp only [World.size_alloc, World.size_setCell, heap_drew] at qz_hb5); (try have qz_hb6 := hb6.size); (try simp only [World.size_alloc, World.size_setCell, heap_drew] at qz_hb6); (try have qz_hb7 := hb7.size); (try simp only [World.size_alloc, World.size_setCell, heap_drew] at qz_hb7); (try have qz_hb8 := hb8.size); (try simp only [World.size_alloc, World.size_setCell, heap_drew] at qz_hb8); (try (obtain ⟨qy_hb5, -, -⟩ : Below _ _ w5 ∧ _ ∧ _ := by assumption; have qx_hb5 := qy_hb5.size)); (try (obtain ⟨qy_hb6, -, -⟩ : Below _ _ w6 ∧ _ ∧ _ := by assumption; have qx_hb6 := qy_hb6.size)); (try (obtain ⟨qy_hb7, -, -⟩ : Below _ _ w7 ∧ _ ∧ _ := by assumption; have qx_hb7 := qy_hb7.size)); (try (obtain ⟨qy_hb8, -, -⟩ : Below _ _ w8 ∧ _ ∧ _ := by assumption; have qx_hb8 := qy_hb8.size)); first | omega | (dsimp only; omega)) _)); done)) (first
    | (go_at_call 20; refine (HPL.out _).mono ?_; rintro e w5 ⟨rfl, hb5⟩; obtain ⟨hc5, hf5⟩ := bcell hb5; have D5 : Below w4.heap.size w4 w5 := Below.trans (by repeat (first | with_reducible assumption | with_reducible exact Below.refl _ _ | with_reducible refine Below.drew ?_ | with_reducible refine below_drewN ?_ _ | with_reducible refine below_alloc ?_ _ | with_reducible refine Below.alloc ?_ (by first | omega | (simp; done) | (simp; omega)) _ | with_reducible refine Below.setCell ?_ (by first | omega | (simp; done) | (simp; omega)) _ | with_reducible refine below_setRow ?_ (by first | omega | (simp; done) | (simp; omega)) _)) (hb5.mono (Below.size (B := w4.heap.size) (w := w4) (by repeat (first | with_reducible assumption | with_reducible exact Below.refl _ _ | with_reducible refine Below.drew ?_ | with_reducible refine below_drewN ?_ _ | with_reducible refine below_alloc ?_ _ | with_reducible refine Below.alloc ?_ (by first | omega | (simp; done) | (simp; omega)) _ | with_reducible refine Below.setCell ?_ (by first | omega | (simp; done) | (simp; omega)) _ | with_reducible refine below_setRow ?_ (by first | omega | (simp; done) | (simp; omega)) _)))))
    | (go_at_call 14; refine (HLs.out _ (D5.trans (Below.mono (by repeat (first | with_reducible assumption | with_reducible exact Below.refl _ _ | with_reducible refine Below.drew ?_ | with_reducible refine below_drewN ?_ _ | with_reducible refine below_alloc ?_ _ | with_reducible refine Below.alloc ?_ (by first | omega | (simp; done) | (simp; omega)) _ | with_reducible refine Below.setCell ?_ (by first | omega | (simp; done) | (simp; omega)) _ | with_reducible refine below_setRow ?_ (by first | omega | (simp; done) | (simp; omega)) _)) D5.size))).mono ?_; rintro e w6 ⟨v6, rfl, hr6, hb6⟩; obtain ⟨A6, c6, rfl⟩ := rowR_shape hr6; have HS6 := hid (SlG.of_row (by omega) hr6); obtain ⟨hc6, hf6⟩ := bcell hb6; have D6 : Below w4.heap.size w4 w6 := D5.trans (Below.trans (Below.mono (by repeat (first | with_reducible assumption | with_reducible exact Below.refl _ _ | with_reducible refine Below.drew ?_ | with_reducible refine below_drewN ?_ _ | with_reducible refine below_alloc ?_ _ | with_reducible refine Below.alloc ?_ (by first | omega | (simp; done) | (simp; omega)) _ | with_reducible refine Below.setCell ?_ (by first | omega | (simp; done) | (simp; omega)) _ | with_reducible refine below_setRow ?_ (by first | omega | (simp; done) | (simp; omega)) _)) D5.size) (hb6.mono (Below.size (B := w4.heap.size) (w := w4) (D5.trans (Below.mono (by repeat (first | with_reducible assumption | with_reducible exact Below.refl _ _ | with_reducible refine Below.drew ?_ | with_reducible refine below_drewN ?_ _ | with_reducible refine below_alloc ?_ _ | with_reducible refine Below.alloc ?_ (by first | omega | (simp; done) | (simp; omega)) _ | with_reducible refine Below.setCell ?_ (by first | omega | (simp; done) | (simp; omega)) _ | with_reducible refine below_setRow ?_ (by first | omega | (simp; done) | (simp; omega)) _)) D5.size))))); clear hr6)
    | (go_at_call 22; refine (HRs.out _ (D6.trans (Below.mono (by repeat (first | with_reducible assumption | with_reducible exact Below.refl _ _ | with_reducible refine Below.drew ?_ | with_reducible refine below_drewN ?_ _ | with_reducible refine below_alloc ?_ _ | with_reducible refine Below.alloc ?_ (by first | omega | (simp; done) | (simp; omega)) _ | with_reducible refine Below.setCell ?_ (by first | omega | (simp; done) | (simp; omega)) _ | with_reducible refine below_setRow ?_ (by first | omega | (simp; done) | (simp; omega)) _)) D6.size))).mono ?_; rintro e w7 ⟨v7, rfl, hr7, hb7⟩; obtain ⟨A7, c7, rfl⟩ := rowR_shape hr7; have HS7 := hid (SlG.of_row (by omega) hr7); obtain ⟨hc7, hf7⟩ := bcell hb7; have D7 : Below w4.heap.size w4 w7 := D6.trans (Below.trans (Below.mono (by repeat (first | with_reducible assumption | with_reducible exact Below.refl _ _ | with_reducible refine Below.drew ?_ | with_reducible refine below_drewN ?_ _ | with_reducible refine below_alloc ?_ _ | with_reducible refine Below.alloc ?_ (by first | omega | (simp; done) | (simp; omega)) _ | with_reducible refine Below.setCell ?_ (by first | omega | (simp; done) | (simp; omega)) _ | with_reducible refine below_setRow ?_ (by first | omega | (simp; done) | (simp; omega)) _)) D6.size) (hb7.mono (Below.size (B := w4.heap.size) (w := w4) (D6.trans (Below.mono (by repeat (first | with_reducible assumption | with_reducible exact Below.refl _ _ | with_reducible refine Below.drew ?_ | with_reducible refine below_drewN ?_ _ | with_reducible refine below_alloc ?_ _ | with_reducible refine Below.alloc ?_ (by first | omega | (simp; done) | (simp; omega)) _ | with_reducible refine Below.setCell ?_ (by first | omega | (simp; done) | (simp; omega)) _ | with_reducible refine below_setRow ?_ (by first | omega | (simp; done) | (simp; omega)) _)) D6.size))))); have E67 : Below w6.heap.size w6 w7 := Below.trans (by repeat (first | with_reducible assumption | with_reducible exact Below.refl _ _ | with_reducible refine Below.drew ?_ | with_reducible refine below_drewN ?_ _ | with_reducible refine below_alloc ?_ _ | with_reducible refine Below.alloc ?_ (by first | omega | (simp; done) | (simp; omega)) _ | with_reducible refine Below.setCell ?_ (by first | omega | (simp; done) | (simp; omega)) _ | with_reducible refine below_setRow ?_ (by first | omega | (simp; done) | (simp; omega)) _)) (hb7.mono (Below.size (B := w6.heap.size) (w := w6) (by repeat (first | with_reducible assumption | with_reducible exact Below.refl _ _ | with_reducible refine Below.drew ?_ | with_reducible refine below_drewN ?_ _ | with_reducible refine below_alloc ?_ _ | with_reducible refine Below.alloc ?_ (by first | omega | (simp; done) | (simp; omega)) _ | with_reducible refine Below.setCell ?_ (by first | omega | (simp; done) | (simp; omega)) _ | with_reducible refine below_setRow ?_ (by first | omega | (simp; done) | (simp; omega)) _)))); have HS67 := hid (HS6.out.below E67); clear hr7)
    | (go_at_call 21; refine (same_q _ _ (HS67.out.below (by repeat (first | with_reducible assumption | with_reducible exact Below.refl _ _ | with_reducible refine Below.drew ?_ | with_reducible refine below_drewN ?_ _ | with_reducible refine below_alloc ?_ _ | with_reducible refine Below.alloc ?_ (by first | omega | (simp; done) | (simp; omega)) _ | with_reducible refine Below.setCell ?_ (by first | omega | (simp; done) | (simp; omega)) _ | with_reducible refine below_setRow ?_ (by first | omega | (simp; done) | (simp; omega)) _))) (HS7.out.below (by repeat (first | with_reducible assumption | with_reducible exact Below.refl _ _ | with_reducible refine Below.drew ?_ | with_reducible refine below_drewN ?_ _ | with_reducible refine below_alloc ?_ _ | with_reducible refine Below.alloc ?_ (by first | omega | (simp; done) | (simp; omega)) _ | with_reducible refine Below.setCell ?_ (by first | omega | (simp; done) | (simp; omega)) _ | with_reducible refine below_setRow ?_ (by first | omega | (simp; done) | (simp; omega)) _))) HNB.out).mono ?_; rintro e w8 ⟨rfl, hb8⟩; obtain ⟨hc8, hf8⟩ := bcell hb8; have D8 : Below w4.heap.size w4 w8 := D7.trans (Below.trans (Below.mono (by repeat (first | with_reducible assumption | with_reducible exact Below.refl _ _ | with_reducible refine Below.drew ?_ | with_reducible refine below_drewN ?_ _ | with_reducible refine below_alloc ?_ _ | with_reducible refine Below.alloc ?_ (by first | omega | (simp; done) | (simp; omega)) _ | with_reducible refine Below.setCell ?_ (by first | omega | (simp; done) | (simp; omega)) _ | with_reducible refine below_setRow ?_ (by first | omega | (simp; done) | (simp; omega)) _)) D7.size) (hb8.mono (Below.size (B := w4.heap.size) (w := w4) (D7.trans (Below.mono (by repeat (first | with_reducible assumption | with_reducible exact Below.refl _ _ | with_reducible refine Below.drew ?_ | with_reducible refine below_drewN ?_ _ | with_reducible refine below_alloc ?_ _ | with_reducible refine Below.alloc ?_ (by first | omega | (simp; done) | (simp; omega)) _ | with_reducible refine Below.setCell ?_ (by first | omega | (simp; done) | (simp; omega)) _ | with_reducible refine below_setRow ?_ (by first | omega | (simp; done) | (simp; omega)) _)) D7.size)))))))
  all_goals
    have FIN := hid (HD1.out.below (HB4.out.trans (D8.mono HB4.out.size)))
    clear x0 x1 x2 y0 y1 y2 z0 z1 z2 hb5 hb6 hb7 hb8 hc5 hc6 hc7 hc8 hf5 hf6 hf7 hf8
    go_wp2
    go_ret
    exact ⟨by simp, Sp.of (FIN.out.more (Nat.le_succ c) (by have := HC.out; omega)) (by repeat (first | with_reducible assumption | with_reducible exact Below.refl _ _ | with_reducible refine Below.drew ?_ | with_reducible refine below_drewN ?_ _ | with_reducible refine below_alloc ?_ _ | with_reducible refine Below.alloc ?_ (by first | omega | (simp; done) | (simp; omega)) _ | with_reducible refine Below.setCell ?_ (by first | omega | (simp; done) | (simp; omega)) _ | with_reducible refine below_setRow ?_ (by first | omega | (simp; done) | (simp; omega)) _))⟩
set_option maxRecDepth 100000 in
set_option maxHeartbeats 8000000 in
theorem qstep_5 (h : Du w0 w q g L L c (fun _ => False)) (hc : c + 1 ≤ 600) (hu : okW u) : Calls Try.prog 18 #[.pointer (some ⟨q, 0, none⟩), .pointer (some ⟨g, 0, none⟩), oQ 5 u] w fun e w' => e = .returned (.bool true) ∧ Sp w0 w' q g c := by
  have HH := hid h
  have HU := hid hu
  have HC := hid hc
  have hcl := h.qs.len
  have HLL : Hid (L.length ≤ 600) := by unfold Hid; omega
  obtain ⟨j, t, p⟩ := u
  unfold oQ
  simp only
  clear h hu hc hcl
  go_enter Try.func18, Try.ntmps18
  go_upto_region 16 with (fail)
  refine wp_name ?_
  intro w1 hw1
  have A1 : w1.heap[w.heap.size + 1]? = some (.cells #[.int .i64 j, .string t, .int .i64 p] 29 (0, 0)) := by rw [hw1]; exact (by (repeat (first | (with_reducible assumption) | (with_reducible exact alloc_at _ _) | ((with_reducible apply alloc_at'); (simp; done)) | (with_reducible apply alloc_at_lt) | (with_reducible apply heap_drew_at) | (with_reducible apply heap_drewN_at) | (with_reducible apply heap_setCell_same) | ((with_reducible apply heap_set_ne); (first | omega | (dsimp only; omega) | (simp; done) | (simp; omega))) | (with_reducible apply setRow_at) | ((with_reducible apply setRow_ne); (first | omega | (dsimp only; omega) | (simp; done) | (simp; omega))))))
  have b1 : Below w.heap.size w w1 := by rw [hw1]; exact (by repeat (first | with_reducible assumption | with_reducible exact Below.refl _ _ | with_reducible refine Below.drew ?_ | with_reducible refine below_drewN ?_ _ | with_reducible refine below_alloc ?_ _ | with_reducible refine Below.alloc ?_ (by first | omega | (simp; done) | (simp; omega)) _ | with_reducible refine Below.setCell ?_ (by first | omega | (simp; done) | (simp; omega)) _ | with_reducible refine below_setRow ?_ (by first | omega | (simp; done) | (simp; omega)) _))
  obtain ⟨X, hX⟩ : ∃ X, X = w.heap.size + 1 := ⟨_, rfl⟩
  rw [← hX] at A1 ⊢
  have HD1 : Hid (Du w0 w1 q g L L c (fun k => k = X)) := HH.out.add b1 (fun k hk => .inr (by rw [hk, hX]; omega))
  have HA1 := hid A1
  have HXC : Hid (∀ W, Below w1.heap.size w1 W → X < W.heap.size ∧ W.cell? ⟨X, 0, none⟩ = some (.int .i64 j) ∧ W.cell? ⟨X, 1, none⟩ = some (.string t) ∧ W.cell? ⟨X, 2, none⟩ = some (.int .i64 p)) := fun W hb => by
    have hXW := (hb.block _ (lt_of_at HA1.out)).trans HA1.out
    exact ⟨lt_of_at hXW, (blk_cell hXW 0).trans rfl, (blk_cell hXW 1).trans rfl, (blk_cell hXW 2).trans rfl⟩
  clear hw1 b1 hX A1
  have HKX : Hid (∀ W, Below w1.heap.size w1 W → Du w0 W q g L L c (fun k => k = X)) := fun W hb => HD1.out.below hb
  have hcall := qs_top HD1.out.qs
  clear HXC
  go_wp2_with fail
  refine hcall.mono ?_
  rintro e w2 ⟨v2, ks, rfl, hk, hrow, hb2⟩
  obtain ⟨b, hb⟩ : ∃ b, b = bestL L := ⟨_, rfl⟩
  rw [← hb] at hrow ⊢
  obtain ⟨N, hN⟩ : ∃ N, N = (topT L b ks).length := ⟨_, rfl⟩
  rw [← hN] at hrow
  obtain ⟨A2, c2, rfl⟩ := rowR_shape hrow
  have HS2 := hid (SlG.of_row (by omega) hrow)
  have HK := hid hk
  have HBE := hid hb
  have HNE := hid hN
  have HB2 := hid hb2
  have hkl := IsTn.len HH.out.qs.srt hk
  have HNB : Hid (N ≤ 100000 ∧ ks.length ≤ 600) := by
    have h1 : (topT L b ks).length ≤ ks.length := List.length_filter_le _ _
    have := HLL.out
    unfold Hid
    omega
  clear hcall hk hrow hb2 hb hN hkl
  have hcall := (HKX.out w2 HB2.out).rtop (by have := HLL.out; omega)
  go_wp2_with fail
  refine hcall.mono ?_
  rintro e w3 ⟨v3, ks3, rfl, hk3, hrow, hb3⟩
  obtain rfl := hk3.unique HK.out
  rw [← HBE.out, ← HNE.out] at hrow
  rw [← HBE.out]
  obtain ⟨A3, c3, rfl⟩ := rowR_shape hrow
  have HS3 := hid (SlG.of_row (by omega) hrow)
  have HB3 : Hid (Below w1.heap.size w1 w3) := HB2.out.trans (hb3.mono HB2.out.size)
  have hsm := same_any c2 c3 (HS2.out.below hb3) HS3.out HNB.out.1
  have hbb : (b == b) = true := by simp
  clear hcall hk3 hrow hb3
  go_wp2_with fail
  refine hsm.mono ?_
  rintro e w4 ⟨rfl, hb4⟩
  have HB4 : Hid (Below w1.heap.size w1 w4) := HB3.out.trans (hb4.mono HB3.out.size)
  clear hsm hb4
  have hcall := qs_tens (HKX.out w4 HB4.out).qs
  go_wp2_with fail
  refine hcall.mono ?_
  rintro e w5 ⟨v5, ks5, rfl, hk5, hrow, hb5⟩
  obtain rfl := hk5.unique HK.out
  obtain ⟨n5, hn5⟩ : ∃ n, n = ks5.length := ⟨_, rfl⟩
  rw [← hn5] at hrow
  obtain ⟨A5, c5, rfl⟩ := rowR_shape hrow
  have HS5 := hid (SlG.of_row (by omega) hrow)
  have HB5 : Hid (Below w1.heap.size w1 w5) := HB4.out.trans (hb5.mono HB4.out.size)
  have HN5 := hid hn5
  clear hcall hk5 hrow hb5 hn5
  have hcall := (HKX.out w5 HB5.out).rtens (by have := HLL.out; omega)
  go_wp2_with fail
  refine hcall.mono ?_
  rintro e w6 ⟨v6, ks6, rfl, hk6, hrow, hb6⟩
  obtain rfl := hk6.unique HK.out
  rw [← HN5.out] at hrow
  obtain ⟨A6, c6, rfl⟩ := rowR_shape hrow
  have HS6 := hid (SlG.of_row (by omega) hrow)
  have HB6 : Hid (Below w1.heap.size w1 w6) := HB5.out.trans (hb6.mono HB5.out.size)
  have hsm := same_any c5 c6 (HS5.out.below hb6) HS6.out (by have := HNB.out.2; have := HN5.out; omega)
  clear hcall hk6 hrow hb6
  go_wp2_with fail
  refine hsm.mono ?_
  rintro e w7 ⟨rfl, hb7⟩
  have FIN := hid ((HKX.out w6 HB6.out).below hb7)
  clear hsm hb7
  go_wp2
  go_ret
  exact ⟨by simp, Sp.of (FIN.out.more (Nat.le_succ c) (by have := HC.out; omega)) (Below.refl _ _)⟩
set_option maxRecDepth 100000 in
set_option maxHeartbeats 8000000 in
theorem qstep_o (h : Du w0 w q g L L c (fun _ => False)) (hc : c + 1 ≤ 600) (hu : okW u) (kd : Int) (h1 : kd ≠ 1) (h2 : kd ≠ 2) (h3 : kd ≠ 3) (h4 : kd ≠ 4) (h5 : kd ≠ 5) : Calls Try.prog 18 #[.pointer (some ⟨q, 0, none⟩), .pointer (some ⟨g, 0, none⟩), oQ kd u] w fun e w' => e = .returned (.bool true) ∧ Sp w0 w' q g c := by
  have HH := hid h
  have HU := hid hu
  have HC := hid hc
  have hcl := h.qs.len
  have HLL : Hid (L.length ≤ 600) := by unfold Hid; omega
  obtain ⟨j, t, p⟩ := u
  unfold oQ
  simp only
  have e1 : (kd == 1) = false := by simpa using h1
  have e2 : (kd == 2) = false := by simpa using h2
  have e3 : (kd == 3) = false := by simpa using h3
  have e4 : (kd == 4) = false := by simpa using h4
  have e5 : (kd == 5) = false := by simpa using h5
  clear h hu hc hcl h1 h2 h3 h4 h5
  go_enter Try.func18, Try.ntmps18
  go_upto_region 19 with (fail)
  refine wp_name ?_
  intro w1 hw1
  have A1 : w1.heap[w.heap.size + 1]? = some (.cells #[.int .i64 j, .string t, .int .i64 p] 29 (0, 0)) := by rw [hw1]; exact (by (repeat (first | (with_reducible assumption) | (with_reducible exact alloc_at _ _) | ((with_reducible apply alloc_at'); (simp; done)) | (with_reducible apply alloc_at_lt) | (with_reducible apply heap_drew_at) | (with_reducible apply heap_drewN_at) | (with_reducible apply heap_setCell_same) | ((with_reducible apply heap_set_ne); (first | omega | (dsimp only; omega) | (simp; done) | (simp; omega))) | (with_reducible apply setRow_at) | ((with_reducible apply setRow_ne); (first | omega | (dsimp only; omega) | (simp; done) | (simp; omega))))))
  have b1 : Below w.heap.size w w1 := by rw [hw1]; exact (by repeat (first | with_reducible assumption | with_reducible exact Below.refl _ _ | with_reducible refine Below.drew ?_ | with_reducible refine below_drewN ?_ _ | with_reducible refine below_alloc ?_ _ | with_reducible refine Below.alloc ?_ (by first | omega | (simp; done) | (simp; omega)) _ | with_reducible refine Below.setCell ?_ (by first | omega | (simp; done) | (simp; omega)) _ | with_reducible refine below_setRow ?_ (by first | omega | (simp; done) | (simp; omega)) _))
  obtain ⟨X, hX⟩ : ∃ X, X = w.heap.size + 1 := ⟨_, rfl⟩
  rw [← hX] at A1 ⊢
  have HD1 : Hid (Du w0 w1 q g L L c (fun k => k = X)) := HH.out.add b1 (fun k hk => .inr (by rw [hk, hX]; omega))
  have HA1 := hid A1
  have HXC : Hid (∀ W, Below w1.heap.size w1 W → X < W.heap.size ∧ W.cell? ⟨X, 0, none⟩ = some (.int .i64 j) ∧ W.cell? ⟨X, 1, none⟩ = some (.string t) ∧ W.cell? ⟨X, 2, none⟩ = some (.int .i64 p)) := fun W hb => by
    have hXW := (hb.block _ (lt_of_at HA1.out)).trans HA1.out
    exact ⟨lt_of_at hXW, (blk_cell hXW 0).trans rfl, (blk_cell hXW 1).trans rfl, (blk_cell hXW 2).trans rfl⟩
  clear hw1 b1 hX A1
  clear HXC
  go_wp2
  go_ret
  exact ⟨by simp, Sp.of (HD1.out.more (Nat.le_succ c) (by have := HC.out; omega)) (Below.refl _ _)⟩
theorem qstep_any (h : Du w0 w q g L L c (fun _ => False)) (hc : c + 1 ≤ 600) (hu : okW u) (kd : Int) : Calls Try.prog 18 #[.pointer (some ⟨q, 0, none⟩), .pointer (some ⟨g, 0, none⟩), oQ kd u] w fun e w' => e = .returned (.bool true) ∧ Sp w0 w' q g c := by
  by_cases h1 : kd = 1
  · subst h1; exact qstep_1 h hc hu
  by_cases h2 : kd = 2
  · subst h2; exact qstep_2 h hc hu
  by_cases h3 : kd = 3
  · subst h3; exact qstep_3 h hc hu
  by_cases h4 : kd = 4
  · subst h4; exact qstep_4 h hc hu
  by_cases h5 : kd = 5
  · subst h5; exact qstep_5 h hc hu
  exact qstep_o h hc hu kd h1 h2 h3 h4 h5
end Go.Proofs.Ytingeijodooocaa
