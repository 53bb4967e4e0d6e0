/- Contract of the reference's Take of chapter 13 at one entry: it fits. -/
import Derived.Test.YtobgolceggeogaaRefT
import Derived.IntWalk
namespace Go.Proofs.Ytobgolceggeogaa
open Go.RowKit
theorem findI_set (l : List RA) (s : ByteArray) (k : Nat) (x : RA) (hk : k < l.length) (hx : x.1 = l[k].1) : findI (l.set k x) s = findI l s := by
  induction l generalizing k with
  | nil => simp at hk
  | cons y l ih =>
    cases k with
    | zero => simp at hx; simp [findI, hx]
    | succ k => simp at hx hk; simp [findI, ih k hk hx]
/-- Behind a store of one cell into a row one account of which has been changed. -/
theorem row_put {B R g cap k c : Nat} {w : World} {l : List RA} (x0 : RA) (h : RefL B w R (.slice (some ⟨g, 0, none⟩) l.length cap) (l.set k x0)) (hgR : g ≠ R) (hj : k < l.length) (hc : c < 9) (x : RA) (u : Value) (hset : cellsA x = (cellsA x0).set c u) :
    RefL B (w.setCell ⟨g, k * 9 + c, none⟩ u) R (.slice (some ⟨g, 0, none⟩) l.length cap) (l.set k x) ∧ KeptT w (w.setCell ⟨g, k * 9 + c, none⟩ u) ∧ Below B w (w.setCell ⟨g, k * 9 + c, none⟩ u) := by
  have h1 : RefL B w R (.slice (some ⟨g, 0, none⟩) (l.set k x0).length cap) (l.set k x0) := by rw [List.length_set]; exact h
  have h2 := row_set h1 hgR (by rw [List.length_set]; exact hj) hc x u (by rw [List.getElem_set_self]; exact hset)
  rw [List.set_set, List.length_set] at h2
  exact h2
/-- What a walk wants of such a row. -/
theorem RefL.cellsP {B R g cap k : Nat} {w : World} {l : List RA} {x : RA} (h : RefL B w R (.slice (some ⟨g, 0, none⟩) l.length cap) (l.set k x)) (hk : k < l.length) :
    g ≠ R ∧ g < w.heap.size ∧ (∀ i, w.frozen? ⟨g, i, none⟩ = false) ∧ ∀ c, c < 9 → w.cell? ⟨g, k * 9 + c, none⟩ = (cellsA x)[c]? := by
  obtain ⟨g', cap', e, -, h1, h2, h3, h4⟩ := h.row (by rw [List.length_set]; omega)
  injection e with e1 e2 e3
  cases e1
  refine ⟨h1, h2, h3, fun c hc => ?_⟩
  have h5 := h4 k (by rw [List.length_set]; omega) c hc
  rw [List.getElem_set_self] at h5
  exact h5
set_option maxRecDepth 20000 in
set_option maxHeartbeats 4000000 in
theorem rtake_ok (B R : Nat) (g rcap : Nat) (l : List RA) (s : ByteArray) (a b c d y1 y2 y3 y4 y5 y6 y7 y8 : Int) (p cap : Nat) (w : World) (hB : B ≤ w.heap.size) (hR : RefL B w R (.slice (some ⟨g, 0, none⟩) l.length rcap) l) (hm : l.length ≤ 100000) (hp : w.heap[p]? = some (.cells #[.string s, .int .i64 a, .int .i64 b, .int .i64 c, .int .i64 d] 42 (0, 0))) (k : Nat) (hk : findI l s = k) (hkl : k < l.length) (hy : l[k] = (s, (y1, y2, y3, y4), y5, y6, y7, y8)) (hok1 : okV (y1, y2, y3, y4) = true) (hok2 : okV (y5, y6, y7, y8) = true) (hv : okV (a, b, c, d) = true) (f0 : y5 + a ≤ y1) (f1 : y6 + b ≤ y2) (f2 : y7 + c ≤ y3) (f3 : y8 + d ≤ y4) :
    Calls Try.prog 15 #[.pointer (some ⟨R, 0, none⟩), .slice (some ⟨p, 0, none⟩) 1 cap] w fun e w' => e = .returned (.int .i64 0) ∧ RefPost B w w' R (l.set k (s, (y1, y2, y3, y4), y5 + a, y6 + b, y7 + c, y8 + d)) := by
  obtain ⟨⟨l0, q0⟩, ⟨l1, q1⟩, ⟨l2, q2⟩, ⟨l3, q3⟩⟩ := (okV_iff _).1 hok1
  obtain ⟨⟨m0, n0⟩, ⟨m1, n1⟩, ⟨m2, n2⟩, ⟨m3, n3⟩⟩ := (okV_iff _).1 hok2
  obtain ⟨⟨v0, u0⟩, ⟨v1, u1⟩, ⟨v2, u2⟩, ⟨v3, u3⟩⟩ := (okV_iff _).1 hv
  simp only at l0 q0 l1 q1 l2 q2 l3 q3 m0 n0 m1 n1 m2 n2 m3 n3 v0 u0 v1 u1 v2 u2 v3 u3
  have hw := rwrong_ok B R _ l s a b c d p cap w hR hm hp hv k hk
  have HR := hid hR
  have hlR := lt_of_at hR.2.1
  have hpl := lt_of_at hp
  obtain ⟨-, hgl, hgf, hcell⟩ := hR.cells (by omega)
  have hcy : ∀ cc, cc < 9 → w.cell? ⟨g, k * 9 + cc, none⟩ = (cellsA (s, (y1, y2, y3, y4), y5, y6, y7, y8))[cc]? := fun cc hc => by rw [← hy]; exact hcell k hkl cc hc
  have HY := hid hy
  clear hR hcell hgf hy hok1 hok2 hv
  go_enter Try.func15, Try.ntmps15
  go_wp2_with fail
  refine hw.mono ?_
  rintro e w1 ⟨rfl, hb1⟩
  have hs1 := hb1.size
  have R1 := HR.out.below hb1
  have hp1 := below_at hb1 hpl hp
  have hfi : ∀ W, Below w1.heap.size w1 W → Calls Try.prog 32 #[.pointer (some ⟨R, 0, none⟩), .string s] W fun e w' => e = .returned (.int .i64 k) ∧ Below W.heap.size W w' := fun W h => by have h2 := rfind_any B R _ l s W (R1.below h) hm; rw [hk] at h2; exact h2
  have rc : w1.cell? ⟨R, 0, none⟩ = some (.slice (some ⟨g, 0, none⟩) l.length rcap) := (blk_cell R1.2.1 0).trans rfl
  have b0 : w1.cell? ⟨p, 0, none⟩ = some (.string s) := (blk_cell hp1 0).trans rfl
  have hgl1 : g < w1.heap.size := by omega
  have hlR1 : R < w1.heap.size := by omega
  have hpl1 : p < w1.heap.size := by omega
  have y_0 : w1.cell? ⟨g, k * 9, none⟩ = some (.string s) := (hb1.cell (p := ⟨g, k * 9 + 0, none⟩) hgl).trans ((hcy 0 (by omega)).trans rfl)
  have y_1 : w1.cell? ⟨g, k * 9 + 1, none⟩ = some (.int .i64 y1) := (hb1.cell (p := ⟨g, k * 9 + 1, none⟩) hgl).trans ((hcy 1 (by omega)).trans rfl)
  have y_2 : w1.cell? ⟨g, k * 9 + 2, none⟩ = some (.int .i64 y2) := (hb1.cell (p := ⟨g, k * 9 + 2, none⟩) hgl).trans ((hcy 2 (by omega)).trans rfl)
  have y_3 : w1.cell? ⟨g, k * 9 + 3, none⟩ = some (.int .i64 y3) := (hb1.cell (p := ⟨g, k * 9 + 3, none⟩) hgl).trans ((hcy 3 (by omega)).trans rfl)
  have y_4 : w1.cell? ⟨g, k * 9 + 4, none⟩ = some (.int .i64 y4) := (hb1.cell (p := ⟨g, k * 9 + 4, none⟩) hgl).trans ((hcy 4 (by omega)).trans rfl)
  have y_5 : w1.cell? ⟨g, k * 9 + 5, none⟩ = some (.int .i64 y5) := (hb1.cell (p := ⟨g, k * 9 + 5, none⟩) hgl).trans ((hcy 5 (by omega)).trans rfl)
  have y_6 : w1.cell? ⟨g, k * 9 + 6, none⟩ = some (.int .i64 y6) := (hb1.cell (p := ⟨g, k * 9 + 6, none⟩) hgl).trans ((hcy 6 (by omega)).trans rfl)
  have y_7 : w1.cell? ⟨g, k * 9 + 7, none⟩ = some (.int .i64 y7) := (hb1.cell (p := ⟨g, k * 9 + 7, none⟩) hgl).trans ((hcy 7 (by omega)).trans rfl)
  have y_8 : w1.cell? ⟨g, k * 9 + 8, none⟩ = some (.int .i64 y8) := (hb1.cell (p := ⟨g, k * 9 + 8, none⟩) hgl).trans ((hcy 8 (by omega)).trans rfl)
  have hB1 : B ≤ w1.heap.size := by omega
  clear hw hcy
  go_wp2
  refine wp_loop_rounds 2 ?_
  rw [rounds_succ]
  go_wp2
  go_upto_region 7 with fail
  go_cut [7] (fun s7_ wx => ∃ xY : Nat, s7_ = .pointer (some ⟨xY, 0, none⟩) ∧ Below w1.heap.size w1 wx ∧ wx.heap[xY]? = some (.cells #[.string s, .int .i64 y1, .int .i64 y2, .int .i64 y3, .int .i64 y4, .int .i64 y5, .int .i64 y6, .int .i64 y7, .int .i64 y8] 73 (0, 0)))
  case first =>
    go_region_held3 (fun w' => Below w1.heap.size w1 w' ∧ (∀ b o, b < w1.heap.size → w'.cell? ⟨b, o, none⟩ = w1.cell? ⟨b, o, none⟩) ∧ ∀ b o, b < w1.heap.size → w'.frozen? ⟨b, o, none⟩ = w1.frozen? ⟨b, o, none⟩) (first | ((try go_split_ands); (try dsimp only); refine same_of ?_; (repeat (first | with_reducible assumption | with_reducible exact Below.refl _ _ | with_reducible refine Below.drew ?_ | with_reducible refine below_drewN ?_ _ | with_reducible refine below_alloc ?_ _ | with_reducible refine Below.alloc ?_ (by first | omega | (simp; done) | (simp; omega)) _ | with_reducible refine Below.setCell ?_ (by first | omega | (simp; done) | (simp; omega)) _ | with_reducible refine below_setRow ?_ (by first | omega | (simp; done) | (simp; omega)) _)); done) | ((try go_split_ands); (try dsimp only); refine same_of ?_; (repeat (first | with_reducible refine below_call ?_ hb91 | with_reducible assumption | with_reducible exact Below.refl _ _ | with_reducible refine Below.drew ?_ | with_reducible refine below_alloc ?_ _ | with_reducible refine Below.setCell ?_ (by (try have qz_hb91 := hb91.size); (try simp only [World.size_alloc, World.size_setCell, heap_drew] at qz_hb91); (try (obtain ⟨qy_hb91, -, -⟩ : Below _ _ w91 ∧ _ ∧ _ := by assumption; have qx_hb91 := qy_hb91.size)); first | omega | (dsimp only; omega)) _)); done)) (first | (go_at_call_of 32 (Value.pointer (some ⟨R, 0, none⟩)); refine (hfi _ (by repeat (first | with_reducible assumption | with_reducible exact Below.refl _ _ | with_reducible refine Below.drew ?_ | with_reducible refine below_drewN ?_ _ | with_reducible refine below_alloc ?_ _ | with_reducible refine Below.alloc ?_ (by first | omega | (simp; done) | (simp; omega)) _ | with_reducible refine Below.setCell ?_ (by first | omega | (simp; done) | (simp; omega)) _ | with_reducible refine below_setRow ?_ (by first | omega | (simp; done) | (simp; omega)) _))).mono ?_; rintro e w91 ⟨rfl, hb91⟩; obtain ⟨hc91, hf91⟩ := bcell hb91; have hs91 := hb91.size; (try simp only [World.size_alloc, World.size_setCell, heap_drew] at hs91); (try have hl91_w1_0 : w1.heap.size < w91.heap.size := by omega)))
    all_goals
      go_wp2_with fail
      obtain ⟨hb98, -, -⟩ : Below w1.heap.size w1 _ ∧ _ ∧ _ := by assumption
      go_meet
      exact ⟨_, rfl, (by repeat (first | with_reducible assumption | with_reducible exact Below.refl _ _ | with_reducible refine Below.drew ?_ | with_reducible refine below_drewN ?_ _ | with_reducible refine below_alloc ?_ _ | with_reducible refine Below.alloc ?_ (by first | omega | (simp; done) | (simp; omega)) _ | with_reducible refine Below.setCell ?_ (by first | omega | (simp; done) | (simp; omega)) _ | with_reducible refine below_setRow ?_ (by first | omega | (simp; done) | (simp; omega)) _)), at_of (by apply Exists.intro; refine ⟨?_, ?_⟩; (focus ((repeat (first | ((with_reducible refine below_at hb91 ?_ ?_); (focus (first | omega | (dsimp only; omega) | (simp; done) | (simp; omega)))) | (with_reducible assumption) | (with_reducible exact alloc_at _ _) | ((with_reducible apply alloc_at'); (simp; done)) | (with_reducible apply alloc_at_lt) | (with_reducible apply heap_drew_at) | (with_reducible apply heap_drewN_at) | (with_reducible apply heap_setCell_same) | ((with_reducible apply heap_set_ne); (first | omega | (dsimp only; omega) | (simp; done) | (simp; omega))) | (with_reducible apply setRow_at) | ((with_reducible apply setRow_ne); (first | omega | (dsimp only; omega) | (simp; done) | (simp; omega))))))); simp)⟩
  case rest =>
    obtain ⟨xY, rfl, hb2, Y_2⟩ := hcut
    obtain ⟨w2, rfl⟩ : ∃ wx_ : World, wx_ = wc := ⟨_, rfl⟩
    have hs2 := hb2.size
    try simp only [World.size_alloc, World.size_setCell] at hs2
    have B2 : Below w1.heap.size w1 w2 := Below.trans (by repeat (first | with_reducible assumption | with_reducible exact Below.refl _ _ | with_reducible refine Below.drew ?_ | with_reducible refine below_drewN ?_ _ | with_reducible refine below_alloc ?_ _ | with_reducible refine Below.alloc ?_ (by first | omega | (simp; done) | (simp; omega)) _ | with_reducible refine Below.setCell ?_ (by first | omega | (simp; done) | (simp; omega)) _ | with_reducible refine below_setRow ?_ (by first | omega | (simp; done) | (simp; omega)) _)) (hb2.mono (by first | omega | (simp; done) | (simp; omega)))
    clear hb2
    have Yc0 : w2.cell? ⟨xY, 0, none⟩ = some (.string s) := (blk_cell Y_2 0).trans rfl
    have Yc1 : w2.cell? ⟨xY, 1, none⟩ = some (.int .i64 y1) := (blk_cell Y_2 1).trans rfl
    have Yc2 : w2.cell? ⟨xY, 2, none⟩ = some (.int .i64 y2) := (blk_cell Y_2 2).trans rfl
    have Yc3 : w2.cell? ⟨xY, 3, none⟩ = some (.int .i64 y3) := (blk_cell Y_2 3).trans rfl
    have Yc4 : w2.cell? ⟨xY, 4, none⟩ = some (.int .i64 y4) := (blk_cell Y_2 4).trans rfl
    have Yc5 : w2.cell? ⟨xY, 5, none⟩ = some (.int .i64 y5) := (blk_cell Y_2 5).trans rfl
    have Yc6 : w2.cell? ⟨xY, 6, none⟩ = some (.int .i64 y6) := (blk_cell Y_2 6).trans rfl
    have Yc7 : w2.cell? ⟨xY, 7, none⟩ = some (.int .i64 y7) := (blk_cell Y_2 7).trans rfl
    have Yc8 : w2.cell? ⟨xY, 8, none⟩ = some (.int .i64 y8) := (blk_cell Y_2 8).trans rfl
    have Ycf := blk_free Y_2
    have Yl2 : xY < w2.heap.size := lt_of_at Y_2
    have hpk2 := below_at B2 (n := p) (by omega) hp1
    have BW2 := B2
    go_wp2
    refine wp_loop_rounds 5 ?_
    rw [rounds_succ]
    go_upto_region 11 with fail
    have eX : ∀ lx_ : Lat w2.heap.size w2, lx_.w.heap[p]? = some (.cells #[.string s, .int .i64 a, .int .i64 b, .int .i64 c, .int .i64 d] 42 (0, 0)) := fun lx_ => (lx_.h.block p (by omega)).trans hpk2
    have e0 : ∀ lx_ : Lat w2.heap.size w2, lx_.w.cell? ⟨xY, 0, none⟩ = some (.string s) := fun lx_ => by rw [lx_.cell _ _ Yl2]; exact Yc0
    have e1 : ∀ lx_ : Lat w2.heap.size w2, lx_.w.cell? ⟨xY, 1, none⟩ = some (.int .i64 y1) := fun lx_ => by rw [lx_.cell _ _ Yl2]; exact Yc1
    have e5 : ∀ lx_ : Lat w2.heap.size w2, lx_.w.cell? ⟨xY, 5, none⟩ = some (.int .i64 y5) := fun lx_ => by rw [lx_.cell _ _ Yl2]; exact Yc5
    refine wp_region_lat (by kernel_rfl) (by kernel_rfl) ?_
    repeat (go_big_quiet_step ((go_at_call 34; exact lat_of (Nat.le_refl _) (rsum_one0 p cap s a b c d _ (eX _) ⟨v0, u0⟩))))
    refine wpQuiet_nil ?_
    rintro w3 ⟨x3, hx3⟩
    have hb3 := x3.h
    rw [← hx3] at hb3
    clear hx3 x3 eX e0 e1 e5
    have hs3 := hb3.size
    have hpk3 := below_at hb3 (by omega) hpk2
    have Y_3 := below_at hb3 Yl2 Y_2
    have BW3 : Below w1.heap.size w1 w3 := BW2.trans (hb3.mono (by omega))
    clear hb3 Y_2 hpk2 BW2 Yc0 Yc1 Yc2 Yc3 Yc4 Yc5 Yc6 Yc7 Yc8 Ycf
    have Yc0 : w3.cell? ⟨xY, 0, none⟩ = some (.string s) := (blk_cell Y_3 0).trans rfl
    have Yc1 : w3.cell? ⟨xY, 1, none⟩ = some (.int .i64 y1) := (blk_cell Y_3 1).trans rfl
    have Yc2 : w3.cell? ⟨xY, 2, none⟩ = some (.int .i64 y2) := (blk_cell Y_3 2).trans rfl
    have Yc3 : w3.cell? ⟨xY, 3, none⟩ = some (.int .i64 y3) := (blk_cell Y_3 3).trans rfl
    have Yc4 : w3.cell? ⟨xY, 4, none⟩ = some (.int .i64 y4) := (blk_cell Y_3 4).trans rfl
    have Yc5 : w3.cell? ⟨xY, 5, none⟩ = some (.int .i64 y5) := (blk_cell Y_3 5).trans rfl
    have Yc6 : w3.cell? ⟨xY, 6, none⟩ = some (.int .i64 y6) := (blk_cell Y_3 6).trans rfl
    have Yc7 : w3.cell? ⟨xY, 7, none⟩ = some (.int .i64 y7) := (blk_cell Y_3 7).trans rfl
    have Yc8 : w3.cell? ⟨xY, 8, none⟩ = some (.int .i64 y8) := (blk_cell Y_3 8).trans rfl
    have Ycf := blk_free Y_3
    have Yl3 : xY < w3.heap.size := lt_of_at Y_3
    go_wp2
    rw [rounds_succ]
    go_upto_region 11 with fail
    have eX : ∀ lx_ : Lat w3.heap.size w3, lx_.w.heap[p]? = some (.cells #[.string s, .int .i64 a, .int .i64 b, .int .i64 c, .int .i64 d] 42 (0, 0)) := fun lx_ => (lx_.h.block p (by omega)).trans hpk3
    have e0 : ∀ lx_ : Lat w3.heap.size w3, lx_.w.cell? ⟨xY, 0, none⟩ = some (.string s) := fun lx_ => by rw [lx_.cell _ _ Yl3]; exact Yc0
    have e2 : ∀ lx_ : Lat w3.heap.size w3, lx_.w.cell? ⟨xY, 2, none⟩ = some (.int .i64 y2) := fun lx_ => by rw [lx_.cell _ _ Yl3]; exact Yc2
    have e6 : ∀ lx_ : Lat w3.heap.size w3, lx_.w.cell? ⟨xY, 6, none⟩ = some (.int .i64 y6) := fun lx_ => by rw [lx_.cell _ _ Yl3]; exact Yc6
    refine wp_region_lat (by kernel_rfl) (by kernel_rfl) ?_
    repeat (go_big_quiet_step ((go_at_call 34; exact lat_of (Nat.le_refl _) (rsum_one1 p cap s a b c d _ (eX _) ⟨v1, u1⟩))))
    refine wpQuiet_nil ?_
    rintro w4 ⟨x4, hx4⟩
    have hb4 := x4.h
    rw [← hx4] at hb4
    clear hx4 x4 eX e0 e2 e6
    have hs4 := hb4.size
    have hpk4 := below_at hb4 (by omega) hpk3
    have Y_4 := below_at hb4 Yl3 Y_3
    have BW4 : Below w1.heap.size w1 w4 := BW3.trans (hb4.mono (by omega))
    clear hb4 Y_3 hpk3 BW3 Yc0 Yc1 Yc2 Yc3 Yc4 Yc5 Yc6 Yc7 Yc8 Ycf
    have Yc0 : w4.cell? ⟨xY, 0, none⟩ = some (.string s) := (blk_cell Y_4 0).trans rfl
    have Yc1 : w4.cell? ⟨xY, 1, none⟩ = some (.int .i64 y1) := (blk_cell Y_4 1).trans rfl
    have Yc2 : w4.cell? ⟨xY, 2, none⟩ = some (.int .i64 y2) := (blk_cell Y_4 2).trans rfl
    have Yc3 : w4.cell? ⟨xY, 3, none⟩ = some (.int .i64 y3) := (blk_cell Y_4 3).trans rfl
    have Yc4 : w4.cell? ⟨xY, 4, none⟩ = some (.int .i64 y4) := (blk_cell Y_4 4).trans rfl
    have Yc5 : w4.cell? ⟨xY, 5, none⟩ = some (.int .i64 y5) := (blk_cell Y_4 5).trans rfl
    have Yc6 : w4.cell? ⟨xY, 6, none⟩ = some (.int .i64 y6) := (blk_cell Y_4 6).trans rfl
    have Yc7 : w4.cell? ⟨xY, 7, none⟩ = some (.int .i64 y7) := (blk_cell Y_4 7).trans rfl
    have Yc8 : w4.cell? ⟨xY, 8, none⟩ = some (.int .i64 y8) := (blk_cell Y_4 8).trans rfl
    have Ycf := blk_free Y_4
    have Yl4 : xY < w4.heap.size := lt_of_at Y_4
    go_wp2
    rw [rounds_succ]
    go_upto_region 11 with fail
    have eX : ∀ lx_ : Lat w4.heap.size w4, lx_.w.heap[p]? = some (.cells #[.string s, .int .i64 a, .int .i64 b, .int .i64 c, .int .i64 d] 42 (0, 0)) := fun lx_ => (lx_.h.block p (by omega)).trans hpk4
    have e0 : ∀ lx_ : Lat w4.heap.size w4, lx_.w.cell? ⟨xY, 0, none⟩ = some (.string s) := fun lx_ => by rw [lx_.cell _ _ Yl4]; exact Yc0
    have e3 : ∀ lx_ : Lat w4.heap.size w4, lx_.w.cell? ⟨xY, 3, none⟩ = some (.int .i64 y3) := fun lx_ => by rw [lx_.cell _ _ Yl4]; exact Yc3
    have e7 : ∀ lx_ : Lat w4.heap.size w4, lx_.w.cell? ⟨xY, 7, none⟩ = some (.int .i64 y7) := fun lx_ => by rw [lx_.cell _ _ Yl4]; exact Yc7
    refine wp_region_lat (by kernel_rfl) (by kernel_rfl) ?_
    repeat (go_big_quiet_step ((go_at_call 34; exact lat_of (Nat.le_refl _) (rsum_one2 p cap s a b c d _ (eX _) ⟨v2, u2⟩))))
    refine wpQuiet_nil ?_
    rintro w5 ⟨x5, hx5⟩
    have hb5 := x5.h
    rw [← hx5] at hb5
    clear hx5 x5 eX e0 e3 e7
    have hs5 := hb5.size
    have hpk5 := below_at hb5 (by omega) hpk4
    have Y_5 := below_at hb5 Yl4 Y_4
    have BW5 : Below w1.heap.size w1 w5 := BW4.trans (hb5.mono (by omega))
    clear hb5 Y_4 hpk4 BW4 Yc0 Yc1 Yc2 Yc3 Yc4 Yc5 Yc6 Yc7 Yc8 Ycf
    have Yc0 : w5.cell? ⟨xY, 0, none⟩ = some (.string s) := (blk_cell Y_5 0).trans rfl
    have Yc1 : w5.cell? ⟨xY, 1, none⟩ = some (.int .i64 y1) := (blk_cell Y_5 1).trans rfl
    have Yc2 : w5.cell? ⟨xY, 2, none⟩ = some (.int .i64 y2) := (blk_cell Y_5 2).trans rfl
    have Yc3 : w5.cell? ⟨xY, 3, none⟩ = some (.int .i64 y3) := (blk_cell Y_5 3).trans rfl
    have Yc4 : w5.cell? ⟨xY, 4, none⟩ = some (.int .i64 y4) := (blk_cell Y_5 4).trans rfl
    have Yc5 : w5.cell? ⟨xY, 5, none⟩ = some (.int .i64 y5) := (blk_cell Y_5 5).trans rfl
    have Yc6 : w5.cell? ⟨xY, 6, none⟩ = some (.int .i64 y6) := (blk_cell Y_5 6).trans rfl
    have Yc7 : w5.cell? ⟨xY, 7, none⟩ = some (.int .i64 y7) := (blk_cell Y_5 7).trans rfl
    have Yc8 : w5.cell? ⟨xY, 8, none⟩ = some (.int .i64 y8) := (blk_cell Y_5 8).trans rfl
    have Ycf := blk_free Y_5
    have Yl5 : xY < w5.heap.size := lt_of_at Y_5
    go_wp2
    rw [rounds_succ]
    go_upto_region 11 with fail
    have eX : ∀ lx_ : Lat w5.heap.size w5, lx_.w.heap[p]? = some (.cells #[.string s, .int .i64 a, .int .i64 b, .int .i64 c, .int .i64 d] 42 (0, 0)) := fun lx_ => (lx_.h.block p (by omega)).trans hpk5
    have e0 : ∀ lx_ : Lat w5.heap.size w5, lx_.w.cell? ⟨xY, 0, none⟩ = some (.string s) := fun lx_ => by rw [lx_.cell _ _ Yl5]; exact Yc0
    have e4 : ∀ lx_ : Lat w5.heap.size w5, lx_.w.cell? ⟨xY, 4, none⟩ = some (.int .i64 y4) := fun lx_ => by rw [lx_.cell _ _ Yl5]; exact Yc4
    have e8 : ∀ lx_ : Lat w5.heap.size w5, lx_.w.cell? ⟨xY, 8, none⟩ = some (.int .i64 y8) := fun lx_ => by rw [lx_.cell _ _ Yl5]; exact Yc8
    refine wp_region_lat (by kernel_rfl) (by kernel_rfl) ?_
    repeat (go_big_quiet_step ((go_at_call 34; exact lat_of (Nat.le_refl _) (rsum_one3 p cap s a b c d _ (eX _) ⟨v3, u3⟩))))
    refine wpQuiet_nil ?_
    rintro w6 ⟨x6, hx6⟩
    have hb6 := x6.h
    rw [← hx6] at hb6
    clear hx6 x6 eX e0 e4 e8
    have hs6 := hb6.size
    have hpk6 := below_at hb6 (by omega) hpk5
    have Y_6 := below_at hb6 Yl5 Y_5
    have BW6 : Below w1.heap.size w1 w6 := BW5.trans (hb6.mono (by omega))
    clear hb6 Y_5 hpk5 BW5 Yc0 Yc1 Yc2 Yc3 Yc4 Yc5 Yc6 Yc7 Yc8 Ycf
    have Yc0 : w6.cell? ⟨xY, 0, none⟩ = some (.string s) := (blk_cell Y_6 0).trans rfl
    have Yc1 : w6.cell? ⟨xY, 1, none⟩ = some (.int .i64 y1) := (blk_cell Y_6 1).trans rfl
    have Yc2 : w6.cell? ⟨xY, 2, none⟩ = some (.int .i64 y2) := (blk_cell Y_6 2).trans rfl
    have Yc3 : w6.cell? ⟨xY, 3, none⟩ = some (.int .i64 y3) := (blk_cell Y_6 3).trans rfl
    have Yc4 : w6.cell? ⟨xY, 4, none⟩ = some (.int .i64 y4) := (blk_cell Y_6 4).trans rfl
    have Yc5 : w6.cell? ⟨xY, 5, none⟩ = some (.int .i64 y5) := (blk_cell Y_6 5).trans rfl
    have Yc6 : w6.cell? ⟨xY, 6, none⟩ = some (.int .i64 y6) := (blk_cell Y_6 6).trans rfl
    have Yc7 : w6.cell? ⟨xY, 7, none⟩ = some (.int .i64 y7) := (blk_cell Y_6 7).trans rfl
    have Yc8 : w6.cell? ⟨xY, 8, none⟩ = some (.int .i64 y8) := (blk_cell Y_6 8).trans rfl
    have Ycf := blk_free Y_6
    have Yl6 : xY < w6.heap.size := lt_of_at Y_6
    go_wp2
    rw [rounds_succ]
    have hgp : g ≠ p := fun e => by
      obtain ⟨-, -, -, ⟨h3, -⟩ | ⟨g', cap', cur, h3, -, hh, -⟩⟩ := R1
      · cases h3
      · cases h3
        rw [e, hp1] at hh
        injection hh with hh
        injection hh with _ h5
        exact absurd h5 (by decide)
    have hpg := Ne.symm hgp
    go_wp2
    rw [rounds_succ]
    go_wp2
    refine wp_loop_rounds 2 ?_
    rw [rounds_succ]
    go_wp2
    refine wp_loop_rounds 5 ?_
    have RR0 : RefL B w6 R (.slice (some ⟨g, 0, none⟩) l.length rcap) (l.set k (s, (y1, y2, y3, y4), y5, y6, y7, y8)) := by rw [← HY.out, List.set_getElem_self]; exact R1.below BW6
    have KT0 : KeptT w1 w6 := keptT_below BW6
    have BB0 : Below B w1 w6 := BW6.mono hB1
    clear Y_6 BW6 Yc0 Yc1 Yc2 Yc3 Yc4 Yc5 Yc6 Yc7 Yc8 Ycf Yl6
    rw [rounds_succ]
    go_upto_region 19 with fail
    have hF : ∀ lx_ : Lat w6.heap.size w6, Calls Try.prog 32 #[.pointer (some ⟨R, 0, none⟩), .string s] lx_.w fun e w' => e = .returned (.int .i64 k) ∧ Below lx_.w.heap.size lx_.w w' := fun lx_ => by have h2 := rfind_any B R _ _ s lx_.w (RR0.below lx_.h) (by rw [List.length_set]; exact hm); rw [findI_set l s k _ hkl (by rw [HY.out]), hk] at h2; exact h2
    have hlR6 := lt_of_at RR0.2.1
    obtain ⟨hgR, hgl6, -, hc6⟩ := RR0.cellsP hkl
    have hpl6 := lt_of_at hpk6
    have eR : ∀ lx_ : Lat w6.heap.size w6, lx_.w.cell? ⟨R, 0, none⟩ = some (.slice (some ⟨g, 0, none⟩) l.length rcap) := fun lx_ => by rw [lx_.cell _ _ hlR6]; exact (blk_cell RR0.2.1 0).trans rfl
    have eY : ∀ lx_ : Lat w6.heap.size w6, lx_.w.cell? ⟨g, k * 9 + 5, none⟩ = some (.int .i64 (y5)) := fun lx_ => by rw [lx_.cell _ _ hgl6]; exact (hc6 5 (by omega)).trans rfl
    have e0 : ∀ lx_ : Lat w6.heap.size w6, lx_.w.cell? ⟨p, 0, none⟩ = some (.string s) := fun lx_ => by rw [lx_.cell _ _ hpl6]; exact (blk_cell hpk6 0).trans rfl
    have e1 : ∀ lx_ : Lat w6.heap.size w6, lx_.w.cell? ⟨p, 1, none⟩ = some (.int .i64 a) := fun lx_ => by rw [lx_.cell _ _ hpl6]; exact (blk_cell hpk6 1).trans rfl
    have HRR0 := hid RR0
    have HKT := hid KT0
    have HBB := hid BB0
    have HP := hid hpk6
    clear RR0 hc6 KT0 BB0 hpk6
    refine wp_region_lat_tail 27 (by kernel_rfl) (by kernel_rfl) ?_
    simp only [List.take_succ_cons, List.take_zero, List.drop_succ_cons, List.drop_zero]
    repeat (go_big_quiet_step ((go_at_call 32; exact lat_of (Nat.le_refl _) (hF _))))
    refine wpQuiet_nil ?_
    rintro w91 ⟨x91, hx91⟩
    have hb91 := x91.h
    rw [← hx91] at hb91
    clear hx91 x91 hF eR eY e0 e1
    obtain ⟨-, hgl91, hgf91, hc91⟩ := (HRR0.out.below hb91).cellsP hkl
    have eY91 : w91.cell? ⟨g, k * 9 + 5, none⟩ = some (.int .i64 (y5)) := (hc91 5 (by omega)).trans rfl
    clear hc91
    have ew : IntKind.i64.wrap (y5 + a) = (y5 + a) := IntWalk.i64_in _ (by omega)
    obtain ⟨RR1, kt, bl⟩ := row_put (c := 5) _ (HRR0.out.below hb91) hgR hkl (by omega) (s, (y1, y2, y3, y4), y5 + a, y6, y7, y8) (.int .i64 (y5 + a)) rfl
    have KT1 := (HKT.out.trans (keptT_below hb91)).trans kt
    have BB1 := (HBB.out.trans (hb91.mono (Nat.le_trans hB1 HBB.out.size))).trans bl
    have hpk7 := kt p _ (below_at hb91 hpl6 HP.out) ⟨by decide, by decide⟩
    have HQ := hid RR1
    have HK := hid KT1
    have HB2 := hid BB1
    have HP2 := hid hpk7
    clear kt bl HRR0 HKT HBB HP hlR6 hgl6 hpl6 hb91 RR1 KT1 BB1 hpk7 ew
    go_wp2
    generalize w91.setCell ⟨g, k * 9 + 5, none⟩ (.int .i64 (y5 + a)) = w7 at HQ HK HB2 HP2 ⊢
    have RR1 := HQ.out
    have KT1 := HK.out
    have BB1 := HB2.out
    have hpk7 := HP2.out
    clear HQ HK HB2 HP2 eY91 hgl91 hgf91 w91
    rw [rounds_succ]
    go_upto_region 19 with fail
    have hF : ∀ lx_ : Lat w7.heap.size w7, Calls Try.prog 32 #[.pointer (some ⟨R, 0, none⟩), .string s] lx_.w fun e w' => e = .returned (.int .i64 k) ∧ Below lx_.w.heap.size lx_.w w' := fun lx_ => by have h2 := rfind_any B R _ _ s lx_.w (RR1.below lx_.h) (by rw [List.length_set]; exact hm); rw [findI_set l s k _ hkl (by rw [HY.out]), hk] at h2; exact h2
    have hlR7 := lt_of_at RR1.2.1
    obtain ⟨hgR, hgl7, -, hc7⟩ := RR1.cellsP hkl
    have hpl7 := lt_of_at hpk7
    have eR : ∀ lx_ : Lat w7.heap.size w7, lx_.w.cell? ⟨R, 0, none⟩ = some (.slice (some ⟨g, 0, none⟩) l.length rcap) := fun lx_ => by rw [lx_.cell _ _ hlR7]; exact (blk_cell RR1.2.1 0).trans rfl
    have eY : ∀ lx_ : Lat w7.heap.size w7, lx_.w.cell? ⟨g, k * 9 + 6, none⟩ = some (.int .i64 (y6)) := fun lx_ => by rw [lx_.cell _ _ hgl7]; exact (hc7 6 (by omega)).trans rfl
    have e0 : ∀ lx_ : Lat w7.heap.size w7, lx_.w.cell? ⟨p, 0, none⟩ = some (.string s) := fun lx_ => by rw [lx_.cell _ _ hpl7]; exact (blk_cell hpk7 0).trans rfl
    have e1 : ∀ lx_ : Lat w7.heap.size w7, lx_.w.cell? ⟨p, 2, none⟩ = some (.int .i64 b) := fun lx_ => by rw [lx_.cell _ _ hpl7]; exact (blk_cell hpk7 2).trans rfl
    have HRR1 := hid RR1
    have HKT := hid KT1
    have HBB := hid BB1
    have HP := hid hpk7
    clear RR1 hc7 KT1 BB1 hpk7
    refine wp_region_lat_tail 27 (by kernel_rfl) (by kernel_rfl) ?_
    simp only [List.take_succ_cons, List.take_zero, List.drop_succ_cons, List.drop_zero]
    repeat (go_big_quiet_step ((go_at_call 32; exact lat_of (Nat.le_refl _) (hF _))))
    refine wpQuiet_nil ?_
    rintro w91 ⟨x91, hx91⟩
    have hb91 := x91.h
    rw [← hx91] at hb91
    clear hx91 x91 hF eR eY e0 e1
    obtain ⟨-, hgl91, hgf91, hc91⟩ := (HRR1.out.below hb91).cellsP hkl
    have eY91 : w91.cell? ⟨g, k * 9 + 6, none⟩ = some (.int .i64 (y6)) := (hc91 6 (by omega)).trans rfl
    clear hc91
    have ew : IntKind.i64.wrap (y6 + b) = (y6 + b) := IntWalk.i64_in _ (by omega)
    obtain ⟨RR2, kt, bl⟩ := row_put (c := 6) _ (HRR1.out.below hb91) hgR hkl (by omega) (s, (y1, y2, y3, y4), y5 + a, y6 + b, y7, y8) (.int .i64 (y6 + b)) rfl
    have KT2 := (HKT.out.trans (keptT_below hb91)).trans kt
    have BB2 := (HBB.out.trans (hb91.mono (Nat.le_trans hB1 HBB.out.size))).trans bl
    have hpk8 := kt p _ (below_at hb91 hpl7 HP.out) ⟨by decide, by decide⟩
    have HQ := hid RR2
    have HK := hid KT2
    have HB2 := hid BB2
    have HP2 := hid hpk8
    clear kt bl HRR1 HKT HBB HP hlR7 hgl7 hpl7 hb91 RR2 KT2 BB2 hpk8 ew
    go_wp2
    generalize w91.setCell ⟨g, k * 9 + 6, none⟩ (.int .i64 (y6 + b)) = w8 at HQ HK HB2 HP2 ⊢
    have RR2 := HQ.out
    have KT2 := HK.out
    have BB2 := HB2.out
    have hpk8 := HP2.out
    clear HQ HK HB2 HP2 eY91 hgl91 hgf91 w91
    rw [rounds_succ]
    go_upto_region 19 with fail
    have hF : ∀ lx_ : Lat w8.heap.size w8, Calls Try.prog 32 #[.pointer (some ⟨R, 0, none⟩), .string s] lx_.w fun e w' => e = .returned (.int .i64 k) ∧ Below lx_.w.heap.size lx_.w w' := fun lx_ => by have h2 := rfind_any B R _ _ s lx_.w (RR2.below lx_.h) (by rw [List.length_set]; exact hm); rw [findI_set l s k _ hkl (by rw [HY.out]), hk] at h2; exact h2
    have hlR8 := lt_of_at RR2.2.1
    obtain ⟨hgR, hgl8, -, hc8⟩ := RR2.cellsP hkl
    have hpl8 := lt_of_at hpk8
    have eR : ∀ lx_ : Lat w8.heap.size w8, lx_.w.cell? ⟨R, 0, none⟩ = some (.slice (some ⟨g, 0, none⟩) l.length rcap) := fun lx_ => by rw [lx_.cell _ _ hlR8]; exact (blk_cell RR2.2.1 0).trans rfl
    have eY : ∀ lx_ : Lat w8.heap.size w8, lx_.w.cell? ⟨g, k * 9 + 7, none⟩ = some (.int .i64 (y7)) := fun lx_ => by rw [lx_.cell _ _ hgl8]; exact (hc8 7 (by omega)).trans rfl
    have e0 : ∀ lx_ : Lat w8.heap.size w8, lx_.w.cell? ⟨p, 0, none⟩ = some (.string s) := fun lx_ => by rw [lx_.cell _ _ hpl8]; exact (blk_cell hpk8 0).trans rfl
    have e1 : ∀ lx_ : Lat w8.heap.size w8, lx_.w.cell? ⟨p, 3, none⟩ = some (.int .i64 c) := fun lx_ => by rw [lx_.cell _ _ hpl8]; exact (blk_cell hpk8 3).trans rfl
    have HRR2 := hid RR2
    have HKT := hid KT2
    have HBB := hid BB2
    have HP := hid hpk8
    clear RR2 hc8 KT2 BB2 hpk8
    refine wp_region_lat_tail 27 (by kernel_rfl) (by kernel_rfl) ?_
    simp only [List.take_succ_cons, List.take_zero, List.drop_succ_cons, List.drop_zero]
    repeat (go_big_quiet_step ((go_at_call 32; exact lat_of (Nat.le_refl _) (hF _))))
    refine wpQuiet_nil ?_
    rintro w91 ⟨x91, hx91⟩
    have hb91 := x91.h
    rw [← hx91] at hb91
    clear hx91 x91 hF eR eY e0 e1
    obtain ⟨-, hgl91, hgf91, hc91⟩ := (HRR2.out.below hb91).cellsP hkl
    have eY91 : w91.cell? ⟨g, k * 9 + 7, none⟩ = some (.int .i64 (y7)) := (hc91 7 (by omega)).trans rfl
    clear hc91
    have ew : IntKind.i64.wrap (y7 + c) = (y7 + c) := IntWalk.i64_in _ (by omega)
    obtain ⟨RR3, kt, bl⟩ := row_put (c := 7) _ (HRR2.out.below hb91) hgR hkl (by omega) (s, (y1, y2, y3, y4), y5 + a, y6 + b, y7 + c, y8) (.int .i64 (y7 + c)) rfl
    have KT3 := (HKT.out.trans (keptT_below hb91)).trans kt
    have BB3 := (HBB.out.trans (hb91.mono (Nat.le_trans hB1 HBB.out.size))).trans bl
    have hpk9 := kt p _ (below_at hb91 hpl8 HP.out) ⟨by decide, by decide⟩
    have HQ := hid RR3
    have HK := hid KT3
    have HB2 := hid BB3
    have HP2 := hid hpk9
    clear kt bl HRR2 HKT HBB HP hlR8 hgl8 hpl8 hb91 RR3 KT3 BB3 hpk9 ew
    go_wp2
    generalize w91.setCell ⟨g, k * 9 + 7, none⟩ (.int .i64 (y7 + c)) = w9 at HQ HK HB2 HP2 ⊢
    have RR3 := HQ.out
    have KT3 := HK.out
    have BB3 := HB2.out
    have hpk9 := HP2.out
    clear HQ HK HB2 HP2 eY91 hgl91 hgf91 w91
    rw [rounds_succ]
    go_upto_region 19 with fail
    have hF : ∀ lx_ : Lat w9.heap.size w9, Calls Try.prog 32 #[.pointer (some ⟨R, 0, none⟩), .string s] lx_.w fun e w' => e = .returned (.int .i64 k) ∧ Below lx_.w.heap.size lx_.w w' := fun lx_ => by have h2 := rfind_any B R _ _ s lx_.w (RR3.below lx_.h) (by rw [List.length_set]; exact hm); rw [findI_set l s k _ hkl (by rw [HY.out]), hk] at h2; exact h2
    have hlR9 := lt_of_at RR3.2.1
    obtain ⟨hgR, hgl9, -, hc9⟩ := RR3.cellsP hkl
    have hpl9 := lt_of_at hpk9
    have eR : ∀ lx_ : Lat w9.heap.size w9, lx_.w.cell? ⟨R, 0, none⟩ = some (.slice (some ⟨g, 0, none⟩) l.length rcap) := fun lx_ => by rw [lx_.cell _ _ hlR9]; exact (blk_cell RR3.2.1 0).trans rfl
    have eY : ∀ lx_ : Lat w9.heap.size w9, lx_.w.cell? ⟨g, k * 9 + 8, none⟩ = some (.int .i64 (y8)) := fun lx_ => by rw [lx_.cell _ _ hgl9]; exact (hc9 8 (by omega)).trans rfl
    have e0 : ∀ lx_ : Lat w9.heap.size w9, lx_.w.cell? ⟨p, 0, none⟩ = some (.string s) := fun lx_ => by rw [lx_.cell _ _ hpl9]; exact (blk_cell hpk9 0).trans rfl
    have e1 : ∀ lx_ : Lat w9.heap.size w9, lx_.w.cell? ⟨p, 4, none⟩ = some (.int .i64 d) := fun lx_ => by rw [lx_.cell _ _ hpl9]; exact (blk_cell hpk9 4).trans rfl
    have HRR3 := hid RR3
    have HKT := hid KT3
    have HBB := hid BB3
    have HP := hid hpk9
    clear RR3 hc9 KT3 BB3 hpk9
    refine wp_region_lat_tail 27 (by kernel_rfl) (by kernel_rfl) ?_
    simp only [List.take_succ_cons, List.take_zero, List.drop_succ_cons, List.drop_zero]
    repeat (go_big_quiet_step ((go_at_call 32; exact lat_of (Nat.le_refl _) (hF _))))
    refine wpQuiet_nil ?_
    rintro w91 ⟨x91, hx91⟩
    have hb91 := x91.h
    rw [← hx91] at hb91
    clear hx91 x91 hF eR eY e0 e1
    obtain ⟨-, hgl91, hgf91, hc91⟩ := (HRR3.out.below hb91).cellsP hkl
    have eY91 : w91.cell? ⟨g, k * 9 + 8, none⟩ = some (.int .i64 (y8)) := (hc91 8 (by omega)).trans rfl
    clear hc91
    have ew : IntKind.i64.wrap (y8 + d) = (y8 + d) := IntWalk.i64_in _ (by omega)
    obtain ⟨RR4, kt, bl⟩ := row_put (c := 8) _ (HRR3.out.below hb91) hgR hkl (by omega) (s, (y1, y2, y3, y4), y5 + a, y6 + b, y7 + c, y8 + d) (.int .i64 (y8 + d)) rfl
    have KT4 := (HKT.out.trans (keptT_below hb91)).trans kt
    have BB4 := (HBB.out.trans (hb91.mono (Nat.le_trans hB1 HBB.out.size))).trans bl
    have hpk10 := kt p _ (below_at hb91 hpl9 HP.out) ⟨by decide, by decide⟩
    have HQ := hid RR4
    have HK := hid KT4
    have HB2 := hid BB4
    have HP2 := hid hpk10
    clear kt bl HRR3 HKT HBB HP hlR9 hgl9 hpl9 hb91 RR4 KT4 BB4 hpk10 ew
    go_wp2
    generalize w91.setCell ⟨g, k * 9 + 8, none⟩ (.int .i64 (y8 + d)) = w10 at HQ HK HB2 HP2 ⊢
    have RR4 := HQ.out
    have KT4 := HK.out
    have BB4 := HB2.out
    have hpk10 := HP2.out
    clear HQ HK HB2 HP2 eY91 hgl91 hgf91 w91
    rw [rounds_succ]
    go_wp2
    rw [rounds_succ]
    go_wp2
    go_ret
    exact ⟨rfl, ⟨_, RR4⟩, (hb1.mono hB).trans BB4, (keptT_below hb1).trans KT4⟩
end Go.Proofs.Ytobgolceggeogaa
