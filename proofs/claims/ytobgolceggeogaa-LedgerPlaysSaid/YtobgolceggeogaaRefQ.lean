/- Contract of the reference's Take of chapter 13 at one entry: a quota. -/
import Derived.Test.YtobgolceggeogaaRefT
import Derived.IntWalk
namespace Go.Proofs.Ytobgolceggeogaa
open Go.RowKit
set_option maxRecDepth 20000 in
set_option maxHeartbeats 4000000 in
theorem rtake_quota0 (B R : Nat) (g rcap : Nat) (l : List RA) (s : ByteArray) (a b c d y1 y2 y3 y4 y5 y6 y7 y8 : Int) (p cap : Nat) (w : World) (hB : B ≤ w.heap.size) (hR : RefL B w R (.slice (some ⟨g, 0, none⟩) l.length rcap) l) (hm : l.length ≤ 100000) (hp : w.heap[p]? = some (.cells #[.string s, .int .i64 a, .int .i64 b, .int .i64 c, .int .i64 d] 42 (0, 0))) (k : Nat) (hk : findI l s = k) (hkl : k < l.length) (hy : l[k] = (s, (y1, y2, y3, y4), y5, y6, y7, y8)) (hok1 : okV (y1, y2, y3, y4) = true) (hok2 : okV (y5, y6, y7, y8) = true) (hv : okV (a, b, c, d) = true)  (f0 : y1 < y5 + a) :
    Calls Try.prog 15 #[.pointer (some ⟨R, 0, none⟩), .slice (some ⟨p, 0, none⟩) 1 cap] w fun e w' => e = .returned (.int .i64 9) ∧ RefPost B w w' R l := by
  obtain ⟨⟨l0, q0⟩, ⟨l1, q1⟩, ⟨l2, q2⟩, ⟨l3, q3⟩⟩ := (okV_iff _).1 hok1
  obtain ⟨⟨m0, n0⟩, ⟨m1, n1⟩, ⟨m2, n2⟩, ⟨m3, n3⟩⟩ := (okV_iff _).1 hok2
  obtain ⟨⟨v0, u0⟩, ⟨v1, u1⟩, ⟨v2, u2⟩, ⟨v3, u3⟩⟩ := (okV_iff _).1 hv
  simp only at l0 q0 l1 q1 l2 q2 l3 q3 m0 n0 m1 n1 m2 n2 m3 n3 v0 u0 v1 u1 v2 u2 v3 u3
  have hw := rwrong_ok B R _ l s a b c d p cap w hR hm hp hv k hk
  have HR := hid hR
  have hlR := lt_of_at hR.2.1
  have hpl := lt_of_at hp
  obtain ⟨-, hgl, hgf, hcell⟩ := hR.cells (by omega)
  have hcy : ∀ cc, cc < 9 → w.cell? ⟨g, k * 9 + cc, none⟩ = (cellsA (s, (y1, y2, y3, y4), y5, y6, y7, y8))[cc]? := fun cc hc => by rw [← hy]; exact hcell k hkl cc hc
  have HY := hid hy
  clear hR hcell hgf hy hok1 hok2 hv
  go_enter Try.func15, Try.ntmps15
  go_wp2_with fail
  refine hw.mono ?_
  rintro e w1 ⟨rfl, hb1⟩
  have hs1 := hb1.size
  have R1 := HR.out.below hb1
  have hp1 := below_at hb1 hpl hp
  have hfi : ∀ W, Below w1.heap.size w1 W → Calls Try.prog 32 #[.pointer (some ⟨R, 0, none⟩), .string s] W fun e w' => e = .returned (.int .i64 k) ∧ Below W.heap.size W w' := fun W h => by have h2 := rfind_any B R _ l s W (R1.below h) hm; rw [hk] at h2; exact h2
  have rc : w1.cell? ⟨R, 0, none⟩ = some (.slice (some ⟨g, 0, none⟩) l.length rcap) := (blk_cell R1.2.1 0).trans rfl
  have b0 : w1.cell? ⟨p, 0, none⟩ = some (.string s) := (blk_cell hp1 0).trans rfl
  have hgl1 : g < w1.heap.size := by omega
  have hlR1 : R < w1.heap.size := by omega
  have hpl1 : p < w1.heap.size := by omega
  have y_0 : w1.cell? ⟨g, k * 9, none⟩ = some (.string s) := (hb1.cell (p := ⟨g, k * 9 + 0, none⟩) hgl).trans ((hcy 0 (by omega)).trans rfl)
  have y_1 : w1.cell? ⟨g, k * 9 + 1, none⟩ = some (.int .i64 y1) := (hb1.cell (p := ⟨g, k * 9 + 1, none⟩) hgl).trans ((hcy 1 (by omega)).trans rfl)
  have y_2 : w1.cell? ⟨g, k * 9 + 2, none⟩ = some (.int .i64 y2) := (hb1.cell (p := ⟨g, k * 9 + 2, none⟩) hgl).trans ((hcy 2 (by omega)).trans rfl)
  have y_3 : w1.cell? ⟨g, k * 9 + 3, none⟩ = some (.int .i64 y3) := (hb1.cell (p := ⟨g, k * 9 + 3, none⟩) hgl).trans ((hcy 3 (by omega)).trans rfl)
  have y_4 : w1.cell? ⟨g, k * 9 + 4, none⟩ = some (.int .i64 y4) := (hb1.cell (p := ⟨g, k * 9 + 4, none⟩) hgl).trans ((hcy 4 (by omega)).trans rfl)
  have y_5 : w1.cell? ⟨g, k * 9 + 5, none⟩ = some (.int .i64 y5) := (hb1.cell (p := ⟨g, k * 9 + 5, none⟩) hgl).trans ((hcy 5 (by omega)).trans rfl)
  have y_6 : w1.cell? ⟨g, k * 9 + 6, none⟩ = some (.int .i64 y6) := (hb1.cell (p := ⟨g, k * 9 + 6, none⟩) hgl).trans ((hcy 6 (by omega)).trans rfl)
  have y_7 : w1.cell? ⟨g, k * 9 + 7, none⟩ = some (.int .i64 y7) := (hb1.cell (p := ⟨g, k * 9 + 7, none⟩) hgl).trans ((hcy 7 (by omega)).trans rfl)
  have y_8 : w1.cell? ⟨g, k * 9 + 8, none⟩ = some (.int .i64 y8) := (hb1.cell (p := ⟨g, k * 9 + 8, none⟩) hgl).trans ((hcy 8 (by omega)).trans rfl)
  have hB1 : B ≤ w1.heap.size := by omega
  clear hw hcy
  go_wp2
  refine wp_loop_rounds 2 ?_
  rw [rounds_succ]
  go_wp2
  go_upto_region 7 with fail
  go_cut [7] (fun s7_ wx => ∃ xY : Nat, s7_ = .pointer (some ⟨xY, 0, none⟩) ∧ Below w1.heap.size w1 wx ∧ wx.heap[xY]? = some (.cells #[.string s, .int .i64 y1, .int .i64 y2, .int .i64 y3, .int .i64 y4, .int .i64 y5, .int .i64 y6, .int .i64 y7, .int .i64 y8] 73 (0, 0)))
  case first =>
    go_region_held3 (fun w' => Below w1.heap.size w1 w' ∧ (∀ b o, b < w1.heap.size → w'.cell? ⟨b, o, none⟩ = w1.cell? ⟨b, o, none⟩) ∧ ∀ b o, b < w1.heap.size → w'.frozen? ⟨b, o, none⟩ = w1.frozen? ⟨b, o, none⟩) (first | ((try go_split_ands); (try dsimp only); refine same_of ?_; (repeat (first | with_reducible assumption | with_reducible exact Below.refl _ _ | with_reducible refine Below.drew ?_ | with_reducible refine below_drewN ?_ _ | with_reducible refine below_alloc ?_ _ | with_reducible refine Below.alloc ?_ (by first | omega | (simp; done) | (simp; omega)) _ | with_reducible refine Below.setCell ?_ (by first | omega | (simp; done) | (simp; omega)) _ | with_reducible refine below_setRow ?_ (by first | omega | (simp; done) | (simp; omega)) _)); done) | ((try go_split_ands); (try dsimp only); refine same_of ?_; (repeat (first | with_reducible refine below_call ?_ hb91 | with_reducible assumption | with_reducible exact Below.refl _ _ | with_reducible refine Below.drew ?_ | with_reducible refine below_alloc ?_ _ | with_reducible refine Below.setCell ?_ (by (try have qz_hb91 := hb91.size); (try simp only [World.size_alloc, World.size_setCell, heap_drew] at qz_hb91); (try (obtain ⟨qy_hb91, -, -⟩ : Below _ _ w91 ∧ _ ∧ _ := by assumption; have qx_hb91 := qy_hb91.size)); first | omega | (dsimp only; omega)) _)); done)) (first | (go_at_call_of 32 (Value.pointer (some ⟨R, 0, none⟩)); refine (hfi _ (by repeat (first | with_reducible assumption | with_reducible exact Below.refl _ _ | with_reducible refine Below.drew ?_ | with_reducible refine below_drewN ?_ _ | with_reducible refine below_alloc ?_ _ | with_reducible refine Below.alloc ?_ (by first | omega | (simp; done) | (simp; omega)) _ | with_reducible refine Below.setCell ?_ (by first | omega | (simp; done) | (simp; omega)) _ | with_reducible refine below_setRow ?_ (by first | omega | (simp; done) | (simp; omega)) _))).mono ?_; rintro e w91 ⟨rfl, hb91⟩; obtain ⟨hc91, hf91⟩ := bcell hb91; have hs91 := hb91.size; (try simp only [World.size_alloc, World.size_setCell, heap_drew] at hs91); (try have hl91_w1_0 : w1.heap.size < w91.heap.size := by omega)))
    all_goals
      go_wp2_with fail
      obtain ⟨hb98, -, -⟩ : Below w1.heap.size w1 _ ∧ _ ∧ _ := by assumption
      go_meet
      exact ⟨_, rfl, (by repeat (first | with_reducible assumption | with_reducible exact Below.refl _ _ | with_reducible refine Below.drew ?_ | with_reducible refine below_drewN ?_ _ | with_reducible refine below_alloc ?_ _ | with_reducible refine Below.alloc ?_ (by first | omega | (simp; done) | (simp; omega)) _ | with_reducible refine Below.setCell ?_ (by first | omega | (simp; done) | (simp; omega)) _ | with_reducible refine below_setRow ?_ (by first | omega | (simp; done) | (simp; omega)) _)), at_of (by apply Exists.intro; refine ⟨?_, ?_⟩; (focus ((repeat (first | ((with_reducible refine below_at hb91 ?_ ?_); (focus (first | omega | (dsimp only; omega) | (simp; done) | (simp; omega)))) | (with_reducible assumption) | (with_reducible exact alloc_at _ _) | ((with_reducible apply alloc_at'); (simp; done)) | (with_reducible apply alloc_at_lt) | (with_reducible apply heap_drew_at) | (with_reducible apply heap_drewN_at) | (with_reducible apply heap_setCell_same) | ((with_reducible apply heap_set_ne); (first | omega | (dsimp only; omega) | (simp; done) | (simp; omega))) | (with_reducible apply setRow_at) | ((with_reducible apply setRow_ne); (first | omega | (dsimp only; omega) | (simp; done) | (simp; omega))))))); simp)⟩
  case rest =>
    obtain ⟨xY, rfl, hb2, Y_2⟩ := hcut
    obtain ⟨w2, rfl⟩ : ∃ wx_ : World, wx_ = wc := ⟨_, rfl⟩
    have hs2 := hb2.size
    try simp only [World.size_alloc, World.size_setCell] at hs2
    have B2 : Below w1.heap.size w1 w2 := Below.trans (by repeat (first | with_reducible assumption | with_reducible exact Below.refl _ _ | with_reducible refine Below.drew ?_ | with_reducible refine below_drewN ?_ _ | with_reducible refine below_alloc ?_ _ | with_reducible refine Below.alloc ?_ (by first | omega | (simp; done) | (simp; omega)) _ | with_reducible refine Below.setCell ?_ (by first | omega | (simp; done) | (simp; omega)) _ | with_reducible refine below_setRow ?_ (by first | omega | (simp; done) | (simp; omega)) _)) (hb2.mono (by first | omega | (simp; done) | (simp; omega)))
    clear hb2
    have Yc0 : w2.cell? ⟨xY, 0, none⟩ = some (.string s) := (blk_cell Y_2 0).trans rfl
    have Yc1 : w2.cell? ⟨xY, 1, none⟩ = some (.int .i64 y1) := (blk_cell Y_2 1).trans rfl
    have Yc2 : w2.cell? ⟨xY, 2, none⟩ = some (.int .i64 y2) := (blk_cell Y_2 2).trans rfl
    have Yc3 : w2.cell? ⟨xY, 3, none⟩ = some (.int .i64 y3) := (blk_cell Y_2 3).trans rfl
    have Yc4 : w2.cell? ⟨xY, 4, none⟩ = some (.int .i64 y4) := (blk_cell Y_2 4).trans rfl
    have Yc5 : w2.cell? ⟨xY, 5, none⟩ = some (.int .i64 y5) := (blk_cell Y_2 5).trans rfl
    have Yc6 : w2.cell? ⟨xY, 6, none⟩ = some (.int .i64 y6) := (blk_cell Y_2 6).trans rfl
    have Yc7 : w2.cell? ⟨xY, 7, none⟩ = some (.int .i64 y7) := (blk_cell Y_2 7).trans rfl
    have Yc8 : w2.cell? ⟨xY, 8, none⟩ = some (.int .i64 y8) := (blk_cell Y_2 8).trans rfl
    have Ycf := blk_free Y_2
    have Yl2 : xY < w2.heap.size := lt_of_at Y_2
    have hpk2 := below_at B2 (n := p) (by omega) hp1
    have BW2 := B2
    go_wp2
    refine wp_loop_rounds 1 ?_
    rw [rounds_succ]
    go_upto_region 11 with fail
    have eX : ∀ lx_ : Lat w2.heap.size w2, lx_.w.heap[p]? = some (.cells #[.string s, .int .i64 a, .int .i64 b, .int .i64 c, .int .i64 d] 42 (0, 0)) := fun lx_ => (lx_.h.block p (by omega)).trans hpk2
    have e0 : ∀ lx_ : Lat w2.heap.size w2, lx_.w.cell? ⟨xY, 0, none⟩ = some (.string s) := fun lx_ => by rw [lx_.cell _ _ Yl2]; exact Yc0
    have e1 : ∀ lx_ : Lat w2.heap.size w2, lx_.w.cell? ⟨xY, 1, none⟩ = some (.int .i64 y1) := fun lx_ => by rw [lx_.cell _ _ Yl2]; exact Yc1
    have e5 : ∀ lx_ : Lat w2.heap.size w2, lx_.w.cell? ⟨xY, 5, none⟩ = some (.int .i64 y5) := fun lx_ => by rw [lx_.cell _ _ Yl2]; exact Yc5
    refine wp_region_lat (by kernel_rfl) (by kernel_rfl) ?_
    repeat (go_big_quiet_step ((go_at_call 34; exact lat_of (Nat.le_refl _) (rsum_one0 p cap s a b c d _ (eX _) ⟨v0, u0⟩))))
    refine wpQuiet_nil ?_
    rintro w3 ⟨x3, hx3⟩
    have hb3 := x3.h
    rw [← hx3] at hb3
    clear hx3 x3 eX e0 e1 e5
    have hs3 := hb3.size
    have hpk3 := below_at hb3 (by omega) hpk2
    have Y_3 := below_at hb3 Yl2 Y_2
    have BW3 : Below w1.heap.size w1 w3 := BW2.trans (hb3.mono (by omega))
    clear hb3 Y_2 hpk2 BW2 Yc0 Yc1 Yc2 Yc3 Yc4 Yc5 Yc6 Yc7 Yc8 Ycf
    have Yc0 : w3.cell? ⟨xY, 0, none⟩ = some (.string s) := (blk_cell Y_3 0).trans rfl
    have Yc1 : w3.cell? ⟨xY, 1, none⟩ = some (.int .i64 y1) := (blk_cell Y_3 1).trans rfl
    have Yc2 : w3.cell? ⟨xY, 2, none⟩ = some (.int .i64 y2) := (blk_cell Y_3 2).trans rfl
    have Yc3 : w3.cell? ⟨xY, 3, none⟩ = some (.int .i64 y3) := (blk_cell Y_3 3).trans rfl
    have Yc4 : w3.cell? ⟨xY, 4, none⟩ = some (.int .i64 y4) := (blk_cell Y_3 4).trans rfl
    have Yc5 : w3.cell? ⟨xY, 5, none⟩ = some (.int .i64 y5) := (blk_cell Y_3 5).trans rfl
    have Yc6 : w3.cell? ⟨xY, 6, none⟩ = some (.int .i64 y6) := (blk_cell Y_3 6).trans rfl
    have Yc7 : w3.cell? ⟨xY, 7, none⟩ = some (.int .i64 y7) := (blk_cell Y_3 7).trans rfl
    have Yc8 : w3.cell? ⟨xY, 8, none⟩ = some (.int .i64 y8) := (blk_cell Y_3 8).trans rfl
    have Ycf := blk_free Y_3
    have Yl3 : xY < w3.heap.size := lt_of_at Y_3
    go_wp2
    go_ret
    exact ⟨rfl, RefPost.same HR.out hB (hb1.trans (BW3.mono hs1))⟩
set_option maxRecDepth 20000 in
set_option maxHeartbeats 4000000 in
theorem rtake_quota1 (B R : Nat) (g rcap : Nat) (l : List RA) (s : ByteArray) (a b c d y1 y2 y3 y4 y5 y6 y7 y8 : Int) (p cap : Nat) (w : World) (hB : B ≤ w.heap.size) (hR : RefL B w R (.slice (some ⟨g, 0, none⟩) l.length rcap) l) (hm : l.length ≤ 100000) (hp : w.heap[p]? = some (.cells #[.string s, .int .i64 a, .int .i64 b, .int .i64 c, .int .i64 d] 42 (0, 0))) (k : Nat) (hk : findI l s = k) (hkl : k < l.length) (hy : l[k] = (s, (y1, y2, y3, y4), y5, y6, y7, y8)) (hok1 : okV (y1, y2, y3, y4) = true) (hok2 : okV (y5, y6, y7, y8) = true) (hv : okV (a, b, c, d) = true) (f0 : y5 + a ≤ y1) (f1 : y2 < y6 + b) :
    Calls Try.prog 15 #[.pointer (some ⟨R, 0, none⟩), .slice (some ⟨p, 0, none⟩) 1 cap] w fun e w' => e = .returned (.int .i64 9) ∧ RefPost B w w' R l := by
  obtain ⟨⟨l0, q0⟩, ⟨l1, q1⟩, ⟨l2, q2⟩, ⟨l3, q3⟩⟩ := (okV_iff _).1 hok1
  obtain ⟨⟨m0, n0⟩, ⟨m1, n1⟩, ⟨m2, n2⟩, ⟨m3, n3⟩⟩ := (okV_iff _).1 hok2
  obtain ⟨⟨v0, u0⟩, ⟨v1, u1⟩, ⟨v2, u2⟩, ⟨v3, u3⟩⟩ := (okV_iff _).1 hv
  simp only at l0 q0 l1 q1 l2 q2 l3 q3 m0 n0 m1 n1 m2 n2 m3 n3 v0 u0 v1 u1 v2 u2 v3 u3
  have hw := rwrong_ok B R _ l s a b c d p cap w hR hm hp hv k hk
  have HR := hid hR
  have hlR := lt_of_at hR.2.1
  have hpl := lt_of_at hp
  obtain ⟨-, hgl, hgf, hcell⟩ := hR.cells (by omega)
  have hcy : ∀ cc, cc < 9 → w.cell? ⟨g, k * 9 + cc, none⟩ = (cellsA (s, (y1, y2, y3, y4), y5, y6, y7, y8))[cc]? := fun cc hc => by rw [← hy]; exact hcell k hkl cc hc
  have HY := hid hy
  clear hR hcell hgf hy hok1 hok2 hv
  go_enter Try.func15, Try.ntmps15
  go_wp2_with fail
  refine hw.mono ?_
  rintro e w1 ⟨rfl, hb1⟩
  have hs1 := hb1.size
  have R1 := HR.out.below hb1
  have hp1 := below_at hb1 hpl hp
  have hfi : ∀ W, Below w1.heap.size w1 W → Calls Try.prog 32 #[.pointer (some ⟨R, 0, none⟩), .string s] W fun e w' => e = .returned (.int .i64 k) ∧ Below W.heap.size W w' := fun W h => by have h2 := rfind_any B R _ l s W (R1.below h) hm; rw [hk] at h2; exact h2
  have rc : w1.cell? ⟨R, 0, none⟩ = some (.slice (some ⟨g, 0, none⟩) l.length rcap) := (blk_cell R1.2.1 0).trans rfl
  have b0 : w1.cell? ⟨p, 0, none⟩ = some (.string s) := (blk_cell hp1 0).trans rfl
  have hgl1 : g < w1.heap.size := by omega
  have hlR1 : R < w1.heap.size := by omega
  have hpl1 : p < w1.heap.size := by omega
  have y_0 : w1.cell? ⟨g, k * 9, none⟩ = some (.string s) := (hb1.cell (p := ⟨g, k * 9 + 0, none⟩) hgl).trans ((hcy 0 (by omega)).trans rfl)
  have y_1 : w1.cell? ⟨g, k * 9 + 1, none⟩ = some (.int .i64 y1) := (hb1.cell (p := ⟨g, k * 9 + 1, none⟩) hgl).trans ((hcy 1 (by omega)).trans rfl)
  have y_2 : w1.cell? ⟨g, k * 9 + 2, none⟩ = some (.int .i64 y2) := (hb1.cell (p := ⟨g, k * 9 + 2, none⟩) hgl).trans ((hcy 2 (by omega)).trans rfl)
  have y_3 : w1.cell? ⟨g, k * 9 + 3, none⟩ = some (.int .i64 y3) := (hb1.cell (p := ⟨g, k * 9 + 3, none⟩) hgl).trans ((hcy 3 (by omega)).trans rfl)
  have y_4 : w1.cell? ⟨g, k * 9 + 4, none⟩ = some (.int .i64 y4) := (hb1.cell (p := ⟨g, k * 9 + 4, none⟩) hgl).trans ((hcy 4 (by omega)).trans rfl)
  have y_5 : w1.cell? ⟨g, k * 9 + 5, none⟩ = some (.int .i64 y5) := (hb1.cell (p := ⟨g, k * 9 + 5, none⟩) hgl).trans ((hcy 5 (by omega)).trans rfl)
  have y_6 : w1.cell? ⟨g, k * 9 + 6, none⟩ = some (.int .i64 y6) := (hb1.cell (p := ⟨g, k * 9 + 6, none⟩) hgl).trans ((hcy 6 (by omega)).trans rfl)
  have y_7 : w1.cell? ⟨g, k * 9 + 7, none⟩ = some (.int .i64 y7) := (hb1.cell (p := ⟨g, k * 9 + 7, none⟩) hgl).trans ((hcy 7 (by omega)).trans rfl)
  have y_8 : w1.cell? ⟨g, k * 9 + 8, none⟩ = some (.int .i64 y8) := (hb1.cell (p := ⟨g, k * 9 + 8, none⟩) hgl).trans ((hcy 8 (by omega)).trans rfl)
  have hB1 : B ≤ w1.heap.size := by omega
  clear hw hcy
  go_wp2
  refine wp_loop_rounds 2 ?_
  rw [rounds_succ]
  go_wp2
  go_upto_region 7 with fail
  go_cut [7] (fun s7_ wx => ∃ xY : Nat, s7_ = .pointer (some ⟨xY, 0, none⟩) ∧ Below w1.heap.size w1 wx ∧ wx.heap[xY]? = some (.cells #[.string s, .int .i64 y1, .int .i64 y2, .int .i64 y3, .int .i64 y4, .int .i64 y5, .int .i64 y6, .int .i64 y7, .int .i64 y8] 73 (0, 0)))
  case first =>
    go_region_held3 (fun w' => Below w1.heap.size w1 w' ∧ (∀ b o, b < w1.heap.size → w'.cell? ⟨b, o, none⟩ = w1.cell? ⟨b, o, none⟩) ∧ ∀ b o, b < w1.heap.size → w'.frozen? ⟨b, o, none⟩ = w1.frozen? ⟨b, o, none⟩) (first | ((try go_split_ands); (try dsimp only); refine same_of ?_; (repeat (first | with_reducible assumption | with_reducible exact Below.refl _ _ | with_reducible refine Below.drew ?_ | with_reducible refine below_drewN ?_ _ | with_reducible refine below_alloc ?_ _ | with_reducible refine Below.alloc ?_ (by first | omega | (simp; done) | (simp; omega)) _ | with_reducible refine Below.setCell ?_ (by first | omega | (simp; done) | (simp; omega)) _ | with_reducible refine below_setRow ?_ (by first | omega | (simp; done) | (simp; omega)) _)); done) | ((try go_split_ands); (try dsimp only); refine same_of ?_; (repeat (first | with_reducible refine below_call ?_ hb91 | with_reducible assumption | with_reducible exact Below.refl _ _ | with_reducible refine Below.drew ?_ | with_reducible refine below_alloc ?_ _ | with_reducible refine Below.setCell ?_ (by (try have qz_hb91 := hb91.size); (try simp only [World.size_alloc, World.size_setCell, heap_drew] at qz_hb91); (try (obtain ⟨qy_hb91, -, -⟩ : Below _ _ w91 ∧ _ ∧ _ := by assumption; have qx_hb91 := qy_hb91.size)); first | omega | (dsimp only; omega)) _)); done)) (first | (go_at_call_of 32 (Value.pointer (some ⟨R, 0, none⟩)); refine (hfi _ (by repeat (first | with_reducible assumption | with_reducible exact Below.refl _ _ | with_reducible refine Below.drew ?_ | with_reducible refine below_drewN ?_ _ | with_reducible refine below_alloc ?_ _ | with_reducible refine Below.alloc ?_ (by first | omega | (simp; done) | (simp; omega)) _ | with_reducible refine Below.setCell ?_ (by first | omega | (simp; done) | (simp; omega)) _ | with_reducible refine below_setRow ?_ (by first | omega | (simp; done) | (simp; omega)) _))).mono ?_; rintro e w91 ⟨rfl, hb91⟩; obtain ⟨hc91, hf91⟩ := bcell hb91; have hs91 := hb91.size; (try simp only [World.size_alloc, World.size_setCell, heap_drew] at hs91); (try have hl91_w1_0 : w1.heap.size < w91.heap.size := by omega)))
    all_goals
      go_wp2_with fail
      obtain ⟨hb98, -, -⟩ : Below w1.heap.size w1 _ ∧ _ ∧ _ := by assumption
      go_meet
      exact ⟨_, rfl, (by repeat (first | with_reducible assumption | with_reducible exact Below.refl _ _ | with_reducible refine Below.drew ?_ | with_reducible refine below_drewN ?_ _ | with_reducible refine below_alloc ?_ _ | with_reducible refine Below.alloc ?_ (by first | omega | (simp; done) | (simp; omega)) _ | with_reducible refine Below.setCell ?_ (by first | omega | (simp; done) | (simp; omega)) _ | with_reducible refine below_setRow ?_ (by first | omega | (simp; done) | (simp; omega)) _)), at_of (by apply Exists.intro; refine ⟨?_, ?_⟩; (focus ((repeat (first | ((with_reducible refine below_at hb91 ?_ ?_); (focus (first | omega | (dsimp only; omega) | (simp; done) | (simp; omega)))) | (with_reducible assumption) | (with_reducible exact alloc_at _ _) | ((with_reducible apply alloc_at'); (simp; done)) | (with_reducible apply alloc_at_lt) | (with_reducible apply heap_drew_at) | (with_reducible apply heap_drewN_at) | (with_reducible apply heap_setCell_same) | ((with_reducible apply heap_set_ne); (first | omega | (dsimp only; omega) | (simp; done) | (simp; omega))) | (with_reducible apply setRow_at) | ((with_reducible apply setRow_ne); (first | omega | (dsimp only; omega) | (simp; done) | (simp; omega))))))); simp)⟩
  case rest =>
    obtain ⟨xY, rfl, hb2, Y_2⟩ := hcut
    obtain ⟨w2, rfl⟩ : ∃ wx_ : World, wx_ = wc := ⟨_, rfl⟩
    have hs2 := hb2.size
    try simp only [World.size_alloc, World.size_setCell] at hs2
    have B2 : Below w1.heap.size w1 w2 := Below.trans (by repeat (first | with_reducible assumption | with_reducible exact Below.refl _ _ | with_reducible refine Below.drew ?_ | with_reducible refine below_drewN ?_ _ | with_reducible refine below_alloc ?_ _ | with_reducible refine Below.alloc ?_ (by first | omega | (simp; done) | (simp; omega)) _ | with_reducible refine Below.setCell ?_ (by first | omega | (simp; done) | (simp; omega)) _ | with_reducible refine below_setRow ?_ (by first | omega | (simp; done) | (simp; omega)) _)) (hb2.mono (by first | omega | (simp; done) | (simp; omega)))
    clear hb2
    have Yc0 : w2.cell? ⟨xY, 0, none⟩ = some (.string s) := (blk_cell Y_2 0).trans rfl
    have Yc1 : w2.cell? ⟨xY, 1, none⟩ = some (.int .i64 y1) := (blk_cell Y_2 1).trans rfl
    have Yc2 : w2.cell? ⟨xY, 2, none⟩ = some (.int .i64 y2) := (blk_cell Y_2 2).trans rfl
    have Yc3 : w2.cell? ⟨xY, 3, none⟩ = some (.int .i64 y3) := (blk_cell Y_2 3).trans rfl
    have Yc4 : w2.cell? ⟨xY, 4, none⟩ = some (.int .i64 y4) := (blk_cell Y_2 4).trans rfl
    have Yc5 : w2.cell? ⟨xY, 5, none⟩ = some (.int .i64 y5) := (blk_cell Y_2 5).trans rfl
    have Yc6 : w2.cell? ⟨xY, 6, none⟩ = some (.int .i64 y6) := (blk_cell Y_2 6).trans rfl
    have Yc7 : w2.cell? ⟨xY, 7, none⟩ = some (.int .i64 y7) := (blk_cell Y_2 7).trans rfl
    have Yc8 : w2.cell? ⟨xY, 8, none⟩ = some (.int .i64 y8) := (blk_cell Y_2 8).trans rfl
    have Ycf := blk_free Y_2
    have Yl2 : xY < w2.heap.size := lt_of_at Y_2
    have hpk2 := below_at B2 (n := p) (by omega) hp1
    have BW2 := B2
    go_wp2
    refine wp_loop_rounds 2 ?_
    rw [rounds_succ]
    go_upto_region 11 with fail
    have eX : ∀ lx_ : Lat w2.heap.size w2, lx_.w.heap[p]? = some (.cells #[.string s, .int .i64 a, .int .i64 b, .int .i64 c, .int .i64 d] 42 (0, 0)) := fun lx_ => (lx_.h.block p (by omega)).trans hpk2
    have e0 : ∀ lx_ : Lat w2.heap.size w2, lx_.w.cell? ⟨xY, 0, none⟩ = some (.string s) := fun lx_ => by rw [lx_.cell _ _ Yl2]; exact Yc0
    have e1 : ∀ lx_ : Lat w2.heap.size w2, lx_.w.cell? ⟨xY, 1, none⟩ = some (.int .i64 y1) := fun lx_ => by rw [lx_.cell _ _ Yl2]; exact Yc1
    have e5 : ∀ lx_ : Lat w2.heap.size w2, lx_.w.cell? ⟨xY, 5, none⟩ = some (.int .i64 y5) := fun lx_ => by rw [lx_.cell _ _ Yl2]; exact Yc5
    refine wp_region_lat (by kernel_rfl) (by kernel_rfl) ?_
    repeat (go_big_quiet_step ((go_at_call 34; exact lat_of (Nat.le_refl _) (rsum_one0 p cap s a b c d _ (eX _) ⟨v0, u0⟩))))
    refine wpQuiet_nil ?_
    rintro w3 ⟨x3, hx3⟩
    have hb3 := x3.h
    rw [← hx3] at hb3
    clear hx3 x3 eX e0 e1 e5
    have hs3 := hb3.size
    have hpk3 := below_at hb3 (by omega) hpk2
    have Y_3 := below_at hb3 Yl2 Y_2
    have BW3 : Below w1.heap.size w1 w3 := BW2.trans (hb3.mono (by omega))
    clear hb3 Y_2 hpk2 BW2 Yc0 Yc1 Yc2 Yc3 Yc4 Yc5 Yc6 Yc7 Yc8 Ycf
    have Yc0 : w3.cell? ⟨xY, 0, none⟩ = some (.string s) := (blk_cell Y_3 0).trans rfl
    have Yc1 : w3.cell? ⟨xY, 1, none⟩ = some (.int .i64 y1) := (blk_cell Y_3 1).trans rfl
    have Yc2 : w3.cell? ⟨xY, 2, none⟩ = some (.int .i64 y2) := (blk_cell Y_3 2).trans rfl
    have Yc3 : w3.cell? ⟨xY, 3, none⟩ = some (.int .i64 y3) := (blk_cell Y_3 3).trans rfl
    have Yc4 : w3.cell? ⟨xY, 4, none⟩ = some (.int .i64 y4) := (blk_cell Y_3 4).trans rfl
    have Yc5 : w3.cell? ⟨xY, 5, none⟩ = some (.int .i64 y5) := (blk_cell Y_3 5).trans rfl
    have Yc6 : w3.cell? ⟨xY, 6, none⟩ = some (.int .i64 y6) := (blk_cell Y_3 6).trans rfl
    have Yc7 : w3.cell? ⟨xY, 7, none⟩ = some (.int .i64 y7) := (blk_cell Y_3 7).trans rfl
    have Yc8 : w3.cell? ⟨xY, 8, none⟩ = some (.int .i64 y8) := (blk_cell Y_3 8).trans rfl
    have Ycf := blk_free Y_3
    have Yl3 : xY < w3.heap.size := lt_of_at Y_3
    go_wp2
    rw [rounds_succ]
    go_upto_region 11 with fail
    have eX : ∀ lx_ : Lat w3.heap.size w3, lx_.w.heap[p]? = some (.cells #[.string s, .int .i64 a, .int .i64 b, .int .i64 c, .int .i64 d] 42 (0, 0)) := fun lx_ => (lx_.h.block p (by omega)).trans hpk3
    have e0 : ∀ lx_ : Lat w3.heap.size w3, lx_.w.cell? ⟨xY, 0, none⟩ = some (.string s) := fun lx_ => by rw [lx_.cell _ _ Yl3]; exact Yc0
    have e2 : ∀ lx_ : Lat w3.heap.size w3, lx_.w.cell? ⟨xY, 2, none⟩ = some (.int .i64 y2) := fun lx_ => by rw [lx_.cell _ _ Yl3]; exact Yc2
    have e6 : ∀ lx_ : Lat w3.heap.size w3, lx_.w.cell? ⟨xY, 6, none⟩ = some (.int .i64 y6) := fun lx_ => by rw [lx_.cell _ _ Yl3]; exact Yc6
    refine wp_region_lat (by kernel_rfl) (by kernel_rfl) ?_
    repeat (go_big_quiet_step ((go_at_call 34; exact lat_of (Nat.le_refl _) (rsum_one1 p cap s a b c d _ (eX _) ⟨v1, u1⟩))))
    refine wpQuiet_nil ?_
    rintro w4 ⟨x4, hx4⟩
    have hb4 := x4.h
    rw [← hx4] at hb4
    clear hx4 x4 eX e0 e2 e6
    have hs4 := hb4.size
    have hpk4 := below_at hb4 (by omega) hpk3
    have Y_4 := below_at hb4 Yl3 Y_3
    have BW4 : Below w1.heap.size w1 w4 := BW3.trans (hb4.mono (by omega))
    clear hb4 Y_3 hpk3 BW3 Yc0 Yc1 Yc2 Yc3 Yc4 Yc5 Yc6 Yc7 Yc8 Ycf
    have Yc0 : w4.cell? ⟨xY, 0, none⟩ = some (.string s) := (blk_cell Y_4 0).trans rfl
    have Yc1 : w4.cell? ⟨xY, 1, none⟩ = some (.int .i64 y1) := (blk_cell Y_4 1).trans rfl
    have Yc2 : w4.cell? ⟨xY, 2, none⟩ = some (.int .i64 y2) := (blk_cell Y_4 2).trans rfl
    have Yc3 : w4.cell? ⟨xY, 3, none⟩ = some (.int .i64 y3) := (blk_cell Y_4 3).trans rfl
    have Yc4 : w4.cell? ⟨xY, 4, none⟩ = some (.int .i64 y4) := (blk_cell Y_4 4).trans rfl
    have Yc5 : w4.cell? ⟨xY, 5, none⟩ = some (.int .i64 y5) := (blk_cell Y_4 5).trans rfl
    have Yc6 : w4.cell? ⟨xY, 6, none⟩ = some (.int .i64 y6) := (blk_cell Y_4 6).trans rfl
    have Yc7 : w4.cell? ⟨xY, 7, none⟩ = some (.int .i64 y7) := (blk_cell Y_4 7).trans rfl
    have Yc8 : w4.cell? ⟨xY, 8, none⟩ = some (.int .i64 y8) := (blk_cell Y_4 8).trans rfl
    have Ycf := blk_free Y_4
    have Yl4 : xY < w4.heap.size := lt_of_at Y_4
    go_wp2
    go_ret
    exact ⟨rfl, RefPost.same HR.out hB (hb1.trans (BW4.mono hs1))⟩
set_option maxRecDepth 20000 in
set_option maxHeartbeats 4000000 in
theorem rtake_quota2 (B R : Nat) (g rcap : Nat) (l : List RA) (s : ByteArray) (a b c d y1 y2 y3 y4 y5 y6 y7 y8 : Int) (p cap : Nat) (w : World) (hB : B ≤ w.heap.size) (hR : RefL B w R (.slice (some ⟨g, 0, none⟩) l.length rcap) l) (hm : l.length ≤ 100000) (hp : w.heap[p]? = some (.cells #[.string s, .int .i64 a, .int .i64 b, .int .i64 c, .int .i64 d] 42 (0, 0))) (k : Nat) (hk : findI l s = k) (hkl : k < l.length) (hy : l[k] = (s, (y1, y2, y3, y4), y5, y6, y7, y8)) (hok1 : okV (y1, y2, y3, y4) = true) (hok2 : okV (y5, y6, y7, y8) = true) (hv : okV (a, b, c, d) = true) (f0 : y5 + a ≤ y1) (f1 : y6 + b ≤ y2) (f2 : y3 < y7 + c) :
    Calls Try.prog 15 #[.pointer (some ⟨R, 0, none⟩), .slice (some ⟨p, 0, none⟩) 1 cap] w fun e w' => e = .returned (.int .i64 9) ∧ RefPost B w w' R l := by
  obtain ⟨⟨l0, q0⟩, ⟨l1, q1⟩, ⟨l2, q2⟩, ⟨l3, q3⟩⟩ := (okV_iff _).1 hok1
  obtain ⟨⟨m0, n0⟩, ⟨m1, n1⟩, ⟨m2, n2⟩, ⟨m3, n3⟩⟩ := (okV_iff _).1 hok2
  obtain ⟨⟨v0, u0⟩, ⟨v1, u1⟩, ⟨v2, u2⟩, ⟨v3, u3⟩⟩ := (okV_iff _).1 hv
  simp only at l0 q0 l1 q1 l2 q2 l3 q3 m0 n0 m1 n1 m2 n2 m3 n3 v0 u0 v1 u1 v2 u2 v3 u3
  have hw := rwrong_ok B R _ l s a b c d p cap w hR hm hp hv k hk
  have HR := hid hR
  have hlR := lt_of_at hR.2.1
  have hpl := lt_of_at hp
  obtain ⟨-, hgl, hgf, hcell⟩ := hR.cells (by omega)
  have hcy : ∀ cc, cc < 9 → w.cell? ⟨g, k * 9 + cc, none⟩ = (cellsA (s, (y1, y2, y3, y4), y5, y6, y7, y8))[cc]? := fun cc hc => by rw [← hy]; exact hcell k hkl cc hc
  have HY := hid hy
  clear hR hcell hgf hy hok1 hok2 hv
  go_enter Try.func15, Try.ntmps15
  go_wp2_with fail
  refine hw.mono ?_
  rintro e w1 ⟨rfl, hb1⟩
  have hs1 := hb1.size
  have R1 := HR.out.below hb1
  have hp1 := below_at hb1 hpl hp
  have hfi : ∀ W, Below w1.heap.size w1 W → Calls Try.prog 32 #[.pointer (some ⟨R, 0, none⟩), .string s] W fun e w' => e = .returned (.int .i64 k) ∧ Below W.heap.size W w' := fun W h => by have h2 := rfind_any B R _ l s W (R1.below h) hm; rw [hk] at h2; exact h2
  have rc : w1.cell? ⟨R, 0, none⟩ = some (.slice (some ⟨g, 0, none⟩) l.length rcap) := (blk_cell R1.2.1 0).trans rfl
  have b0 : w1.cell? ⟨p, 0, none⟩ = some (.string s) := (blk_cell hp1 0).trans rfl
  have hgl1 : g < w1.heap.size := by omega
  have hlR1 : R < w1.heap.size := by omega
  have hpl1 : p < w1.heap.size := by omega
  have y_0 : w1.cell? ⟨g, k * 9, none⟩ = some (.string s) := (hb1.cell (p := ⟨g, k * 9 + 0, none⟩) hgl).trans ((hcy 0 (by omega)).trans rfl)
  have y_1 : w1.cell? ⟨g, k * 9 + 1, none⟩ = some (.int .i64 y1) := (hb1.cell (p := ⟨g, k * 9 + 1, none⟩) hgl).trans ((hcy 1 (by omega)).trans rfl)
  have y_2 : w1.cell? ⟨g, k * 9 + 2, none⟩ = some (.int .i64 y2) := (hb1.cell (p := ⟨g, k * 9 + 2, none⟩) hgl).trans ((hcy 2 (by omega)).trans rfl)
  have y_3 : w1.cell? ⟨g, k * 9 + 3, none⟩ = some (.int .i64 y3) := (hb1.cell (p := ⟨g, k * 9 + 3, none⟩) hgl).trans ((hcy 3 (by omega)).trans rfl)
  have y_4 : w1.cell? ⟨g, k * 9 + 4, none⟩ = some (.int .i64 y4) := (hb1.cell (p := ⟨g, k * 9 + 4, none⟩) hgl).trans ((hcy 4 (by omega)).trans rfl)
  have y_5 : w1.cell? ⟨g, k * 9 + 5, none⟩ = some (.int .i64 y5) := (hb1.cell (p := ⟨g, k * 9 + 5, none⟩) hgl).trans ((hcy 5 (by omega)).trans rfl)
  have y_6 : w1.cell? ⟨g, k * 9 + 6, none⟩ = some (.int .i64 y6) := (hb1.cell (p := ⟨g, k * 9 + 6, none⟩) hgl).trans ((hcy 6 (by omega)).trans rfl)
  have y_7 : w1.cell? ⟨g, k * 9 + 7, none⟩ = some (.int .i64 y7) := (hb1.cell (p := ⟨g, k * 9 + 7, none⟩) hgl).trans ((hcy 7 (by omega)).trans rfl)
  have y_8 : w1.cell? ⟨g, k * 9 + 8, none⟩ = some (.int .i64 y8) := (hb1.cell (p := ⟨g, k * 9 + 8, none⟩) hgl).trans ((hcy 8 (by omega)).trans rfl)
  have hB1 : B ≤ w1.heap.size := by omega
  clear hw hcy
  go_wp2
  refine wp_loop_rounds 2 ?_
  rw [rounds_succ]
  go_wp2
  go_upto_region 7 with fail
  go_cut [7] (fun s7_ wx => ∃ xY : Nat, s7_ = .pointer (some ⟨xY, 0, none⟩) ∧ Below w1.heap.size w1 wx ∧ wx.heap[xY]? = some (.cells #[.string s, .int .i64 y1, .int .i64 y2, .int .i64 y3, .int .i64 y4, .int .i64 y5, .int .i64 y6, .int .i64 y7, .int .i64 y8] 73 (0, 0)))
  case first =>
    go_region_held3 (fun w' => Below w1.heap.size w1 w' ∧ (∀ b o, b < w1.heap.size → w'.cell? ⟨b, o, none⟩ = w1.cell? ⟨b, o, none⟩) ∧ ∀ b o, b < w1.heap.size → w'.frozen? ⟨b, o, none⟩ = w1.frozen? ⟨b, o, none⟩) (first | ((try go_split_ands); (try dsimp only); refine same_of ?_; (repeat (first | with_reducible assumption | with_reducible exact Below.refl _ _ | with_reducible refine Below.drew ?_ | with_reducible refine below_drewN ?_ _ | with_reducible refine below_alloc ?_ _ | with_reducible refine Below.alloc ?_ (by first | omega | (simp; done) | (simp; omega)) _ | with_reducible refine Below.setCell ?_ (by first | omega | (simp; done) | (simp; omega)) _ | with_reducible refine below_setRow ?_ (by first | omega | (simp; done) | (simp; omega)) _)); done) | ((try go_split_ands); (try dsimp only); refine same_of ?_; (repeat (first | with_reducible refine below_call ?_ hb91 | with_reducible assumption | with_reducible exact Below.refl _ _ | with_reducible refine Below.drew ?_ | with_reducible refine below_alloc ?_ _ | with_reducible refine Below.setCell ?_ (by (try have qz_hb91 := hb91.size); (try simp only [World.size_alloc, World.size_setCell, heap_drew] at qz_hb91); (try (obtain ⟨qy_hb91, -, -⟩ : Below _ _ w91 ∧ _ ∧ _ := by assumption; have qx_hb91 := qy_hb91.size)); first | omega | (dsimp only; omega)) _)); done)) (first | (go_at_call_of 32 (Value.pointer (some ⟨R, 0, none⟩)); refine (hfi _ (by repeat (first | with_reducible assumption | with_reducible exact Below.refl _ _ | with_reducible refine Below.drew ?_ | with_reducible refine below_drewN ?_ _ | with_reducible refine below_alloc ?_ _ | with_reducible refine Below.alloc ?_ (by first | omega | (simp; done) | (simp; omega)) _ | with_reducible refine Below.setCell ?_ (by first | omega | (simp; done) | (simp; omega)) _ | with_reducible refine below_setRow ?_ (by first | omega | (simp; done) | (simp; omega)) _))).mono ?_; rintro e w91 ⟨rfl, hb91⟩; obtain ⟨hc91, hf91⟩ := bcell hb91; have hs91 := hb91.size; (try simp only [World.size_alloc, World.size_setCell, heap_drew] at hs91); (try have hl91_w1_0 : w1.heap.size < w91.heap.size := by omega)))
    all_goals
      go_wp2_with fail
      obtain ⟨hb98, -, -⟩ : Below w1.heap.size w1 _ ∧ _ ∧ _ := by assumption
      go_meet
      exact ⟨_, rfl, (by repeat (first | with_reducible assumption | with_reducible exact Below.refl _ _ | with_reducible refine Below.drew ?_ | with_reducible refine below_drewN ?_ _ | with_reducible refine below_alloc ?_ _ | with_reducible refine Below.alloc ?_ (by first | omega | (simp; done) | (simp; omega)) _ | with_reducible refine Below.setCell ?_ (by first | omega | (simp; done) | (simp; omega)) _ | with_reducible refine below_setRow ?_ (by first | omega | (simp; done) | (simp; omega)) _)), at_of (by apply Exists.intro; refine ⟨?_, ?_⟩; (focus ((repeat (first | ((with_reducible refine below_at hb91 ?_ ?_); (focus (first | omega | (dsimp only; omega) | (simp; done) | (simp; omega)))) | (with_reducible assumption) | (with_reducible exact alloc_at _ _) | ((with_reducible apply alloc_at'); (simp; done)) | (with_reducible apply alloc_at_lt) | (with_reducible apply heap_drew_at) | (with_reducible apply heap_drewN_at) | (with_reducible apply heap_setCell_same) | ((with_reducible apply heap_set_ne); (first | omega | (dsimp only; omega) | (simp; done) | (simp; omega))) | (with_reducible apply setRow_at) | ((with_reducible apply setRow_ne); (first | omega | (dsimp only; omega) | (simp; done) | (simp; omega))))))); simp)⟩
  case rest =>
    obtain ⟨xY, rfl, hb2, Y_2⟩ := hcut
    obtain ⟨w2, rfl⟩ : ∃ wx_ : World, wx_ = wc := ⟨_, rfl⟩
    have hs2 := hb2.size
    try simp only [World.size_alloc, World.size_setCell] at hs2
    have B2 : Below w1.heap.size w1 w2 := Below.trans (by repeat (first | with_reducible assumption | with_reducible exact Below.refl _ _ | with_reducible refine Below.drew ?_ | with_reducible refine below_drewN ?_ _ | with_reducible refine below_alloc ?_ _ | with_reducible refine Below.alloc ?_ (by first | omega | (simp; done) | (simp; omega)) _ | with_reducible refine Below.setCell ?_ (by first | omega | (simp; done) | (simp; omega)) _ | with_reducible refine below_setRow ?_ (by first | omega | (simp; done) | (simp; omega)) _)) (hb2.mono (by first | omega | (simp; done) | (simp; omega)))
    clear hb2
    have Yc0 : w2.cell? ⟨xY, 0, none⟩ = some (.string s) := (blk_cell Y_2 0).trans rfl
    have Yc1 : w2.cell? ⟨xY, 1, none⟩ = some (.int .i64 y1) := (blk_cell Y_2 1).trans rfl
    have Yc2 : w2.cell? ⟨xY, 2, none⟩ = some (.int .i64 y2) := (blk_cell Y_2 2).trans rfl
    have Yc3 : w2.cell? ⟨xY, 3, none⟩ = some (.int .i64 y3) := (blk_cell Y_2 3).trans rfl
    have Yc4 : w2.cell? ⟨xY, 4, none⟩ = some (.int .i64 y4) := (blk_cell Y_2 4).trans rfl
    have Yc5 : w2.cell? ⟨xY, 5, none⟩ = some (.int .i64 y5) := (blk_cell Y_2 5).trans rfl
    have Yc6 : w2.cell? ⟨xY, 6, none⟩ = some (.int .i64 y6) := (blk_cell Y_2 6).trans rfl
    have Yc7 : w2.cell? ⟨xY, 7, none⟩ = some (.int .i64 y7) := (blk_cell Y_2 7).trans rfl
    have Yc8 : w2.cell? ⟨xY, 8, none⟩ = some (.int .i64 y8) := (blk_cell Y_2 8).trans rfl
    have Ycf := blk_free Y_2
    have Yl2 : xY < w2.heap.size := lt_of_at Y_2
    have hpk2 := below_at B2 (n := p) (by omega) hp1
    have BW2 := B2
    go_wp2
    refine wp_loop_rounds 3 ?_
    rw [rounds_succ]
    go_upto_region 11 with fail
    have eX : ∀ lx_ : Lat w2.heap.size w2, lx_.w.heap[p]? = some (.cells #[.string s, .int .i64 a, .int .i64 b, .int .i64 c, .int .i64 d] 42 (0, 0)) := fun lx_ => (lx_.h.block p (by omega)).trans hpk2
    have e0 : ∀ lx_ : Lat w2.heap.size w2, lx_.w.cell? ⟨xY, 0, none⟩ = some (.string s) := fun lx_ => by rw [lx_.cell _ _ Yl2]; exact Yc0
    have e1 : ∀ lx_ : Lat w2.heap.size w2, lx_.w.cell? ⟨xY, 1, none⟩ = some (.int .i64 y1) := fun lx_ => by rw [lx_.cell _ _ Yl2]; exact Yc1
    have e5 : ∀ lx_ : Lat w2.heap.size w2, lx_.w.cell? ⟨xY, 5, none⟩ = some (.int .i64 y5) := fun lx_ => by rw [lx_.cell _ _ Yl2]; exact Yc5
    refine wp_region_lat (by kernel_rfl) (by kernel_rfl) ?_
    repeat (go_big_quiet_step ((go_at_call 34; exact lat_of (Nat.le_refl _) (rsum_one0 p cap s a b c d _ (eX _) ⟨v0, u0⟩))))
    refine wpQuiet_nil ?_
    rintro w3 ⟨x3, hx3⟩
    have hb3 := x3.h
    rw [← hx3] at hb3
    clear hx3 x3 eX e0 e1 e5
    have hs3 := hb3.size
    have hpk3 := below_at hb3 (by omega) hpk2
    have Y_3 := below_at hb3 Yl2 Y_2
    have BW3 : Below w1.heap.size w1 w3 := BW2.trans (hb3.mono (by omega))
    clear hb3 Y_2 hpk2 BW2 Yc0 Yc1 Yc2 Yc3 Yc4 Yc5 Yc6 Yc7 Yc8 Ycf
    have Yc0 : w3.cell? ⟨xY, 0, none⟩ = some (.string s) := (blk_cell Y_3 0).trans rfl
    have Yc1 : w3.cell? ⟨xY, 1, none⟩ = some (.int .i64 y1) := (blk_cell Y_3 1).trans rfl
    have Yc2 : w3.cell? ⟨xY, 2, none⟩ = some (.int .i64 y2) := (blk_cell Y_3 2).trans rfl
    have Yc3 : w3.cell? ⟨xY, 3, none⟩ = some (.int .i64 y3) := (blk_cell Y_3 3).trans rfl
    have Yc4 : w3.cell? ⟨xY, 4, none⟩ = some (.int .i64 y4) := (blk_cell Y_3 4).trans rfl
    have Yc5 : w3.cell? ⟨xY, 5, none⟩ = some (.int .i64 y5) := (blk_cell Y_3 5).trans rfl
    have Yc6 : w3.cell? ⟨xY, 6, none⟩ = some (.int .i64 y6) := (blk_cell Y_3 6).trans rfl
    have Yc7 : w3.cell? ⟨xY, 7, none⟩ = some (.int .i64 y7) := (blk_cell Y_3 7).trans rfl
    have Yc8 : w3.cell? ⟨xY, 8, none⟩ = some (.int .i64 y8) := (blk_cell Y_3 8).trans rfl
    have Ycf := blk_free Y_3
    have Yl3 : xY < w3.heap.size := lt_of_at Y_3
    go_wp2
    rw [rounds_succ]
    go_upto_region 11 with fail
    have eX : ∀ lx_ : Lat w3.heap.size w3, lx_.w.heap[p]? = some (.cells #[.string s, .int .i64 a, .int .i64 b, .int .i64 c, .int .i64 d] 42 (0, 0)) := fun lx_ => (lx_.h.block p (by omega)).trans hpk3
    have e0 : ∀ lx_ : Lat w3.heap.size w3, lx_.w.cell? ⟨xY, 0, none⟩ = some (.string s) := fun lx_ => by rw [lx_.cell _ _ Yl3]; exact Yc0
    have e2 : ∀ lx_ : Lat w3.heap.size w3, lx_.w.cell? ⟨xY, 2, none⟩ = some (.int .i64 y2) := fun lx_ => by rw [lx_.cell _ _ Yl3]; exact Yc2
    have e6 : ∀ lx_ : Lat w3.heap.size w3, lx_.w.cell? ⟨xY, 6, none⟩ = some (.int .i64 y6) := fun lx_ => by rw [lx_.cell _ _ Yl3]; exact Yc6
    refine wp_region_lat (by kernel_rfl) (by kernel_rfl) ?_
    repeat (go_big_quiet_step ((go_at_call 34; exact lat_of (Nat.le_refl _) (rsum_one1 p cap s a b c d _ (eX _) ⟨v1, u1⟩))))
    refine wpQuiet_nil ?_
    rintro w4 ⟨x4, hx4⟩
    have hb4 := x4.h
    rw [← hx4] at hb4
    clear hx4 x4 eX e0 e2 e6
    have hs4 := hb4.size
    have hpk4 := below_at hb4 (by omega) hpk3
    have Y_4 := below_at hb4 Yl3 Y_3
    have BW4 : Below w1.heap.size w1 w4 := BW3.trans (hb4.mono (by omega))
    clear hb4 Y_3 hpk3 BW3 Yc0 Yc1 Yc2 Yc3 Yc4 Yc5 Yc6 Yc7 Yc8 Ycf
    have Yc0 : w4.cell? ⟨xY, 0, none⟩ = some (.string s) := (blk_cell Y_4 0).trans rfl
    have Yc1 : w4.cell? ⟨xY, 1, none⟩ = some (.int .i64 y1) := (blk_cell Y_4 1).trans rfl
    have Yc2 : w4.cell? ⟨xY, 2, none⟩ = some (.int .i64 y2) := (blk_cell Y_4 2).trans rfl
    have Yc3 : w4.cell? ⟨xY, 3, none⟩ = some (.int .i64 y3) := (blk_cell Y_4 3).trans rfl
    have Yc4 : w4.cell? ⟨xY, 4, none⟩ = some (.int .i64 y4) := (blk_cell Y_4 4).trans rfl
    have Yc5 : w4.cell? ⟨xY, 5, none⟩ = some (.int .i64 y5) := (blk_cell Y_4 5).trans rfl
    have Yc6 : w4.cell? ⟨xY, 6, none⟩ = some (.int .i64 y6) := (blk_cell Y_4 6).trans rfl
    have Yc7 : w4.cell? ⟨xY, 7, none⟩ = some (.int .i64 y7) := (blk_cell Y_4 7).trans rfl
    have Yc8 : w4.cell? ⟨xY, 8, none⟩ = some (.int .i64 y8) := (blk_cell Y_4 8).trans rfl
    have Ycf := blk_free Y_4
    have Yl4 : xY < w4.heap.size := lt_of_at Y_4
    go_wp2
    rw [rounds_succ]
    go_upto_region 11 with fail
    have eX : ∀ lx_ : Lat w4.heap.size w4, lx_.w.heap[p]? = some (.cells #[.string s, .int .i64 a, .int .i64 b, .int .i64 c, .int .i64 d] 42 (0, 0)) := fun lx_ => (lx_.h.block p (by omega)).trans hpk4
    have e0 : ∀ lx_ : Lat w4.heap.size w4, lx_.w.cell? ⟨xY, 0, none⟩ = some (.string s) := fun lx_ => by rw [lx_.cell _ _ Yl4]; exact Yc0
    have e3 : ∀ lx_ : Lat w4.heap.size w4, lx_.w.cell? ⟨xY, 3, none⟩ = some (.int .i64 y3) := fun lx_ => by rw [lx_.cell _ _ Yl4]; exact Yc3
    have e7 : ∀ lx_ : Lat w4.heap.size w4, lx_.w.cell? ⟨xY, 7, none⟩ = some (.int .i64 y7) := fun lx_ => by rw [lx_.cell _ _ Yl4]; exact Yc7
    refine wp_region_lat (by kernel_rfl) (by kernel_rfl) ?_
    repeat (go_big_quiet_step ((go_at_call 34; exact lat_of (Nat.le_refl _) (rsum_one2 p cap s a b c d _ (eX _) ⟨v2, u2⟩))))
    refine wpQuiet_nil ?_
    rintro w5 ⟨x5, hx5⟩
    have hb5 := x5.h
    rw [← hx5] at hb5
    clear hx5 x5 eX e0 e3 e7
    have hs5 := hb5.size
    have hpk5 := below_at hb5 (by omega) hpk4
    have Y_5 := below_at hb5 Yl4 Y_4
    have BW5 : Below w1.heap.size w1 w5 := BW4.trans (hb5.mono (by omega))
    clear hb5 Y_4 hpk4 BW4 Yc0 Yc1 Yc2 Yc3 Yc4 Yc5 Yc6 Yc7 Yc8 Ycf
    have Yc0 : w5.cell? ⟨xY, 0, none⟩ = some (.string s) := (blk_cell Y_5 0).trans rfl
    have Yc1 : w5.cell? ⟨xY, 1, none⟩ = some (.int .i64 y1) := (blk_cell Y_5 1).trans rfl
    have Yc2 : w5.cell? ⟨xY, 2, none⟩ = some (.int .i64 y2) := (blk_cell Y_5 2).trans rfl
    have Yc3 : w5.cell? ⟨xY, 3, none⟩ = some (.int .i64 y3) := (blk_cell Y_5 3).trans rfl
    have Yc4 : w5.cell? ⟨xY, 4, none⟩ = some (.int .i64 y4) := (blk_cell Y_5 4).trans rfl
    have Yc5 : w5.cell? ⟨xY, 5, none⟩ = some (.int .i64 y5) := (blk_cell Y_5 5).trans rfl
    have Yc6 : w5.cell? ⟨xY, 6, none⟩ = some (.int .i64 y6) := (blk_cell Y_5 6).trans rfl
    have Yc7 : w5.cell? ⟨xY, 7, none⟩ = some (.int .i64 y7) := (blk_cell Y_5 7).trans rfl
    have Yc8 : w5.cell? ⟨xY, 8, none⟩ = some (.int .i64 y8) := (blk_cell Y_5 8).trans rfl
    have Ycf := blk_free Y_5
    have Yl5 : xY < w5.heap.size := lt_of_at Y_5
    go_wp2
    go_ret
    exact ⟨rfl, RefPost.same HR.out hB (hb1.trans (BW5.mono hs1))⟩
set_option maxRecDepth 20000 in
set_option maxHeartbeats 4000000 in
theorem rtake_quota3 (B R : Nat) (g rcap : Nat) (l : List RA) (s : ByteArray) (a b c d y1 y2 y3 y4 y5 y6 y7 y8 : Int) (p cap : Nat) (w : World) (hB : B ≤ w.heap.size) (hR : RefL B w R (.slice (some ⟨g, 0, none⟩) l.length rcap) l) (hm : l.length ≤ 100000) (hp : w.heap[p]? = some (.cells #[.string s, .int .i64 a, .int .i64 b, .int .i64 c, .int .i64 d] 42 (0, 0))) (k : Nat) (hk : findI l s = k) (hkl : k < l.length) (hy : l[k] = (s, (y1, y2, y3, y4), y5, y6, y7, y8)) (hok1 : okV (y1, y2, y3, y4) = true) (hok2 : okV (y5, y6, y7, y8) = true) (hv : okV (a, b, c, d) = true) (f0 : y5 + a ≤ y1) (f1 : y6 + b ≤ y2) (f2 : y7 + c ≤ y3) (f3 : y4 < y8 + d) :
    Calls Try.prog 15 #[.pointer (some ⟨R, 0, none⟩), .slice (some ⟨p, 0, none⟩) 1 cap] w fun e w' => e = .returned (.int .i64 9) ∧ RefPost B w w' R l := by
  obtain ⟨⟨l0, q0⟩, ⟨l1, q1⟩, ⟨l2, q2⟩, ⟨l3, q3⟩⟩ := (okV_iff _).1 hok1
  obtain ⟨⟨m0, n0⟩, ⟨m1, n1⟩, ⟨m2, n2⟩, ⟨m3, n3⟩⟩ := (okV_iff _).1 hok2
  obtain ⟨⟨v0, u0⟩, ⟨v1, u1⟩, ⟨v2, u2⟩, ⟨v3, u3⟩⟩ := (okV_iff _).1 hv
  simp only at l0 q0 l1 q1 l2 q2 l3 q3 m0 n0 m1 n1 m2 n2 m3 n3 v0 u0 v1 u1 v2 u2 v3 u3
  have hw := rwrong_ok B R _ l s a b c d p cap w hR hm hp hv k hk
  have HR := hid hR
  have hlR := lt_of_at hR.2.1
  have hpl := lt_of_at hp
  obtain ⟨-, hgl, hgf, hcell⟩ := hR.cells (by omega)
  have hcy : ∀ cc, cc < 9 → w.cell? ⟨g, k * 9 + cc, none⟩ = (cellsA (s, (y1, y2, y3, y4), y5, y6, y7, y8))[cc]? := fun cc hc => by rw [← hy]; exact hcell k hkl cc hc
  have HY := hid hy
  clear hR hcell hgf hy hok1 hok2 hv
  go_enter Try.func15, Try.ntmps15
  go_wp2_with fail
  refine hw.mono ?_
  rintro e w1 ⟨rfl, hb1⟩
  have hs1 := hb1.size
  have R1 := HR.out.below hb1
  have hp1 := below_at hb1 hpl hp
  have hfi : ∀ W, Below w1.heap.size w1 W → Calls Try.prog 32 #[.pointer (some ⟨R, 0, none⟩), .string s] W fun e w' => e = .returned (.int .i64 k) ∧ Below W.heap.size W w' := fun W h => by have h2 := rfind_any B R _ l s W (R1.below h) hm; rw [hk] at h2; exact h2
  have rc : w1.cell? ⟨R, 0, none⟩ = some (.slice (some ⟨g, 0, none⟩) l.length rcap) := (blk_cell R1.2.1 0).trans rfl
  have b0 : w1.cell? ⟨p, 0, none⟩ = some (.string s) := (blk_cell hp1 0).trans rfl
  have hgl1 : g < w1.heap.size := by omega
  have hlR1 : R < w1.heap.size := by omega
  have hpl1 : p < w1.heap.size := by omega
  have y_0 : w1.cell? ⟨g, k * 9, none⟩ = some (.string s) := (hb1.cell (p := ⟨g, k * 9 + 0, none⟩) hgl).trans ((hcy 0 (by omega)).trans rfl)
  have y_1 : w1.cell? ⟨g, k * 9 + 1, none⟩ = some (.int .i64 y1) := (hb1.cell (p := ⟨g, k * 9 + 1, none⟩) hgl).trans ((hcy 1 (by omega)).trans rfl)
  have y_2 : w1.cell? ⟨g, k * 9 + 2, none⟩ = some (.int .i64 y2) := (hb1.cell (p := ⟨g, k * 9 + 2, none⟩) hgl).trans ((hcy 2 (by omega)).trans rfl)
  have y_3 : w1.cell? ⟨g, k * 9 + 3, none⟩ = some (.int .i64 y3) := (hb1.cell (p := ⟨g, k * 9 + 3, none⟩) hgl).trans ((hcy 3 (by omega)).trans rfl)
  have y_4 : w1.cell? ⟨g, k * 9 + 4, none⟩ = some (.int .i64 y4) := (hb1.cell (p := ⟨g, k * 9 + 4, none⟩) hgl).trans ((hcy 4 (by omega)).trans rfl)
  have y_5 : w1.cell? ⟨g, k * 9 + 5, none⟩ = some (.int .i64 y5) := (hb1.cell (p := ⟨g, k * 9 + 5, none⟩) hgl).trans ((hcy 5 (by omega)).trans rfl)
  have y_6 : w1.cell? ⟨g, k * 9 + 6, none⟩ = some (.int .i64 y6) := (hb1.cell (p := ⟨g, k * 9 + 6, none⟩) hgl).trans ((hcy 6 (by omega)).trans rfl)
  have y_7 : w1.cell? ⟨g, k * 9 + 7, none⟩ = some (.int .i64 y7) := (hb1.cell (p := ⟨g, k * 9 + 7, none⟩) hgl).trans ((hcy 7 (by omega)).trans rfl)
  have y_8 : w1.cell? ⟨g, k * 9 + 8, none⟩ = some (.int .i64 y8) := (hb1.cell (p := ⟨g, k * 9 + 8, none⟩) hgl).trans ((hcy 8 (by omega)).trans rfl)
  have hB1 : B ≤ w1.heap.size := by omega
  clear hw hcy
  go_wp2
  refine wp_loop_rounds 2 ?_
  rw [rounds_succ]
  go_wp2
  go_upto_region 7 with fail
  go_cut [7] (fun s7_ wx => ∃ xY : Nat, s7_ = .pointer (some ⟨xY, 0, none⟩) ∧ Below w1.heap.size w1 wx ∧ wx.heap[xY]? = some (.cells #[.string s, .int .i64 y1, .int .i64 y2, .int .i64 y3, .int .i64 y4, .int .i64 y5, .int .i64 y6, .int .i64 y7, .int .i64 y8] 73 (0, 0)))
  case first =>
    go_region_held3 (fun w' => Below w1.heap.size w1 w' ∧ (∀ b o, b < w1.heap.size → w'.cell? ⟨b, o, none⟩ = w1.cell? ⟨b, o, none⟩) ∧ ∀ b o, b < w1.heap.size → w'.frozen? ⟨b, o, none⟩ = w1.frozen? ⟨b, o, none⟩) (first | ((try go_split_ands); (try dsimp only); refine same_of ?_; (repeat (first | with_reducible assumption | with_reducible exact Below.refl _ _ | with_reducible refine Below.drew ?_ | with_reducible refine below_drewN ?_ _ | with_reducible refine below_alloc ?_ _ | with_reducible refine Below.alloc ?_ (by first | omega | (simp; done) | (simp; omega)) _ | with_reducible refine Below.setCell ?_ (by first | omega | (simp; done) | (simp; omega)) _ | with_reducible refine below_setRow ?_ (by first | omega | (simp; done) | (simp; omega)) _)); done) | ((try go_split_ands); (try dsimp only); refine same_of ?_; (repeat (first | with_reducible refine below_call ?_ hb91 | with_reducible assumption | with_reducible exact Below.refl _ _ | with_reducible refine Below.drew ?_ | with_reducible refine below_alloc ?_ _ | with_reducible refine Below.setCell ?_ (by (try have qz_hb91 := hb91.size); (try simp only [World.size_alloc, World.size_setCell, heap_drew] at qz_hb91); (try (obtain ⟨qy_hb91, -, -⟩ : Below _ _ w91 ∧ _ ∧ _ := by assumption; have qx_hb91 := qy_hb91.size)); first | omega | (dsimp only; omega)) _)); done)) (first | (go_at_call_of 32 (Value.pointer (some ⟨R, 0, none⟩)); refine (hfi _ (by repeat (first | with_reducible assumption | with_reducible exact Below.refl _ _ | with_reducible refine Below.drew ?_ | with_reducible refine below_drewN ?_ _ | with_reducible refine below_alloc ?_ _ | with_reducible refine Below.alloc ?_ (by first | omega | (simp; done) | (simp; omega)) _ | with_reducible refine Below.setCell ?_ (by first | omega | (simp; done) | (simp; omega)) _ | with_reducible refine below_setRow ?_ (by first | omega | (simp; done) | (simp; omega)) _))).mono ?_; rintro e w91 ⟨rfl, hb91⟩; obtain ⟨hc91, hf91⟩ := bcell hb91; have hs91 := hb91.size; (try simp only [World.size_alloc, World.size_setCell, heap_drew] at hs91); (try have hl91_w1_0 : w1.heap.size < w91.heap.size := by omega)))
    all_goals
      go_wp2_with fail
      obtain ⟨hb98, -, -⟩ : Below w1.heap.size w1 _ ∧ _ ∧ _ := by assumption
      go_meet
      exact ⟨_, rfl, (by repeat (first | with_reducible assumption | with_reducible exact Below.refl _ _ | with_reducible refine Below.drew ?_ | with_reducible refine below_drewN ?_ _ | with_reducible refine below_alloc ?_ _ | with_reducible refine Below.alloc ?_ (by first | omega | (simp; done) | (simp; omega)) _ | with_reducible refine Below.setCell ?_ (by first | omega | (simp; done) | (simp; omega)) _ | with_reducible refine below_setRow ?_ (by first | omega | (simp; done) | (simp; omega)) _)), at_of (by apply Exists.intro; refine ⟨?_, ?_⟩; (focus ((repeat (first | ((with_reducible refine below_at hb91 ?_ ?_); (focus (first | omega | (dsimp only; omega) | (simp; done) | (simp; omega)))) | (with_reducible assumption) | (with_reducible exact alloc_at _ _) | ((with_reducible apply alloc_at'); (simp; done)) | (with_reducible apply alloc_at_lt) | (with_reducible apply heap_drew_at) | (with_reducible apply heap_drewN_at) | (with_reducible apply heap_setCell_same) | ((with_reducible apply heap_set_ne); (first | omega | (dsimp only; omega) | (simp; done) | (simp; omega))) | (with_reducible apply setRow_at) | ((with_reducible apply setRow_ne); (first | omega | (dsimp only; omega) | (simp; done) | (simp; omega))))))); simp)⟩
  case rest =>
    obtain ⟨xY, rfl, hb2, Y_2⟩ := hcut
    obtain ⟨w2, rfl⟩ : ∃ wx_ : World, wx_ = wc := ⟨_, rfl⟩
    have hs2 := hb2.size
    try simp only [World.size_alloc, World.size_setCell] at hs2
    have B2 : Below w1.heap.size w1 w2 := Below.trans (by repeat (first | with_reducible assumption | with_reducible exact Below.refl _ _ | with_reducible refine Below.drew ?_ | with_reducible refine below_drewN ?_ _ | with_reducible refine below_alloc ?_ _ | with_reducible refine Below.alloc ?_ (by first | omega | (simp; done) | (simp; omega)) _ | with_reducible refine Below.setCell ?_ (by first | omega | (simp; done) | (simp; omega)) _ | with_reducible refine below_setRow ?_ (by first | omega | (simp; done) | (simp; omega)) _)) (hb2.mono (by first | omega | (simp; done) | (simp; omega)))
    clear hb2
    have Yc0 : w2.cell? ⟨xY, 0, none⟩ = some (.string s) := (blk_cell Y_2 0).trans rfl
    have Yc1 : w2.cell? ⟨xY, 1, none⟩ = some (.int .i64 y1) := (blk_cell Y_2 1).trans rfl
    have Yc2 : w2.cell? ⟨xY, 2, none⟩ = some (.int .i64 y2) := (blk_cell Y_2 2).trans rfl
    have Yc3 : w2.cell? ⟨xY, 3, none⟩ = some (.int .i64 y3) := (blk_cell Y_2 3).trans rfl
    have Yc4 : w2.cell? ⟨xY, 4, none⟩ = some (.int .i64 y4) := (blk_cell Y_2 4).trans rfl
    have Yc5 : w2.cell? ⟨xY, 5, none⟩ = some (.int .i64 y5) := (blk_cell Y_2 5).trans rfl
    have Yc6 : w2.cell? ⟨xY, 6, none⟩ = some (.int .i64 y6) := (blk_cell Y_2 6).trans rfl
    have Yc7 : w2.cell? ⟨xY, 7, none⟩ = some (.int .i64 y7) := (blk_cell Y_2 7).trans rfl
    have Yc8 : w2.cell? ⟨xY, 8, none⟩ = some (.int .i64 y8) := (blk_cell Y_2 8).trans rfl
    have Ycf := blk_free Y_2
    have Yl2 : xY < w2.heap.size := lt_of_at Y_2
    have hpk2 := below_at B2 (n := p) (by omega) hp1
    have BW2 := B2
    go_wp2
    refine wp_loop_rounds 4 ?_
    rw [rounds_succ]
    go_upto_region 11 with fail
    have eX : ∀ lx_ : Lat w2.heap.size w2, lx_.w.heap[p]? = some (.cells #[.string s, .int .i64 a, .int .i64 b, .int .i64 c, .int .i64 d] 42 (0, 0)) := fun lx_ => (lx_.h.block p (by omega)).trans hpk2
    have e0 : ∀ lx_ : Lat w2.heap.size w2, lx_.w.cell? ⟨xY, 0, none⟩ = some (.string s) := fun lx_ => by rw [lx_.cell _ _ Yl2]; exact Yc0
    have e1 : ∀ lx_ : Lat w2.heap.size w2, lx_.w.cell? ⟨xY, 1, none⟩ = some (.int .i64 y1) := fun lx_ => by rw [lx_.cell _ _ Yl2]; exact Yc1
    have e5 : ∀ lx_ : Lat w2.heap.size w2, lx_.w.cell? ⟨xY, 5, none⟩ = some (.int .i64 y5) := fun lx_ => by rw [lx_.cell _ _ Yl2]; exact Yc5
    refine wp_region_lat (by kernel_rfl) (by kernel_rfl) ?_
    repeat (go_big_quiet_step ((go_at_call 34; exact lat_of (Nat.le_refl _) (rsum_one0 p cap s a b c d _ (eX _) ⟨v0, u0⟩))))
    refine wpQuiet_nil ?_
    rintro w3 ⟨x3, hx3⟩
    have hb3 := x3.h
    rw [← hx3] at hb3
    clear hx3 x3 eX e0 e1 e5
    have hs3 := hb3.size
    have hpk3 := below_at hb3 (by omega) hpk2
    have Y_3 := below_at hb3 Yl2 Y_2
    have BW3 : Below w1.heap.size w1 w3 := BW2.trans (hb3.mono (by omega))
    clear hb3 Y_2 hpk2 BW2 Yc0 Yc1 Yc2 Yc3 Yc4 Yc5 Yc6 Yc7 Yc8 Ycf
    have Yc0 : w3.cell? ⟨xY, 0, none⟩ = some (.string s) := (blk_cell Y_3 0).trans rfl
    have Yc1 : w3.cell? ⟨xY, 1, none⟩ = some (.int .i64 y1) := (blk_cell Y_3 1).trans rfl
    have Yc2 : w3.cell? ⟨xY, 2, none⟩ = some (.int .i64 y2) := (blk_cell Y_3 2).trans rfl
    have Yc3 : w3.cell? ⟨xY, 3, none⟩ = some (.int .i64 y3) := (blk_cell Y_3 3).trans rfl
    have Yc4 : w3.cell? ⟨xY, 4, none⟩ = some (.int .i64 y4) := (blk_cell Y_3 4).trans rfl
    have Yc5 : w3.cell? ⟨xY, 5, none⟩ = some (.int .i64 y5) := (blk_cell Y_3 5).trans rfl
    have Yc6 : w3.cell? ⟨xY, 6, none⟩ = some (.int .i64 y6) := (blk_cell Y_3 6).trans rfl
    have Yc7 : w3.cell? ⟨xY, 7, none⟩ = some (.int .i64 y7) := (blk_cell Y_3 7).trans rfl
    have Yc8 : w3.cell? ⟨xY, 8, none⟩ = some (.int .i64 y8) := (blk_cell Y_3 8).trans rfl
    have Ycf := blk_free Y_3
    have Yl3 : xY < w3.heap.size := lt_of_at Y_3
    go_wp2
    rw [rounds_succ]
    go_upto_region 11 with fail
    have eX : ∀ lx_ : Lat w3.heap.size w3, lx_.w.heap[p]? = some (.cells #[.string s, .int .i64 a, .int .i64 b, .int .i64 c, .int .i64 d] 42 (0, 0)) := fun lx_ => (lx_.h.block p (by omega)).trans hpk3
    have e0 : ∀ lx_ : Lat w3.heap.size w3, lx_.w.cell? ⟨xY, 0, none⟩ = some (.string s) := fun lx_ => by rw [lx_.cell _ _ Yl3]; exact Yc0
    have e2 : ∀ lx_ : Lat w3.heap.size w3, lx_.w.cell? ⟨xY, 2, none⟩ = some (.int .i64 y2) := fun lx_ => by rw [lx_.cell _ _ Yl3]; exact Yc2
    have e6 : ∀ lx_ : Lat w3.heap.size w3, lx_.w.cell? ⟨xY, 6, none⟩ = some (.int .i64 y6) := fun lx_ => by rw [lx_.cell _ _ Yl3]; exact Yc6
    refine wp_region_lat (by kernel_rfl) (by kernel_rfl) ?_
    repeat (go_big_quiet_step ((go_at_call 34; exact lat_of (Nat.le_refl _) (rsum_one1 p cap s a b c d _ (eX _) ⟨v1, u1⟩))))
    refine wpQuiet_nil ?_
    rintro w4 ⟨x4, hx4⟩
    have hb4 := x4.h
    rw [← hx4] at hb4
    clear hx4 x4 eX e0 e2 e6
    have hs4 := hb4.size
    have hpk4 := below_at hb4 (by omega) hpk3
    have Y_4 := below_at hb4 Yl3 Y_3
    have BW4 : Below w1.heap.size w1 w4 := BW3.trans (hb4.mono (by omega))
    clear hb4 Y_3 hpk3 BW3 Yc0 Yc1 Yc2 Yc3 Yc4 Yc5 Yc6 Yc7 Yc8 Ycf
    have Yc0 : w4.cell? ⟨xY, 0, none⟩ = some (.string s) := (blk_cell Y_4 0).trans rfl
    have Yc1 : w4.cell? ⟨xY, 1, none⟩ = some (.int .i64 y1) := (blk_cell Y_4 1).trans rfl
    have Yc2 : w4.cell? ⟨xY, 2, none⟩ = some (.int .i64 y2) := (blk_cell Y_4 2).trans rfl
    have Yc3 : w4.cell? ⟨xY, 3, none⟩ = some (.int .i64 y3) := (blk_cell Y_4 3).trans rfl
    have Yc4 : w4.cell? ⟨xY, 4, none⟩ = some (.int .i64 y4) := (blk_cell Y_4 4).trans rfl
    have Yc5 : w4.cell? ⟨xY, 5, none⟩ = some (.int .i64 y5) := (blk_cell Y_4 5).trans rfl
    have Yc6 : w4.cell? ⟨xY, 6, none⟩ = some (.int .i64 y6) := (blk_cell Y_4 6).trans rfl
    have Yc7 : w4.cell? ⟨xY, 7, none⟩ = some (.int .i64 y7) := (blk_cell Y_4 7).trans rfl
    have Yc8 : w4.cell? ⟨xY, 8, none⟩ = some (.int .i64 y8) := (blk_cell Y_4 8).trans rfl
    have Ycf := blk_free Y_4
    have Yl4 : xY < w4.heap.size := lt_of_at Y_4
    go_wp2
    rw [rounds_succ]
    go_upto_region 11 with fail
    have eX : ∀ lx_ : Lat w4.heap.size w4, lx_.w.heap[p]? = some (.cells #[.string s, .int .i64 a, .int .i64 b, .int .i64 c, .int .i64 d] 42 (0, 0)) := fun lx_ => (lx_.h.block p (by omega)).trans hpk4
    have e0 : ∀ lx_ : Lat w4.heap.size w4, lx_.w.cell? ⟨xY, 0, none⟩ = some (.string s) := fun lx_ => by rw [lx_.cell _ _ Yl4]; exact Yc0
    have e3 : ∀ lx_ : Lat w4.heap.size w4, lx_.w.cell? ⟨xY, 3, none⟩ = some (.int .i64 y3) := fun lx_ => by rw [lx_.cell _ _ Yl4]; exact Yc3
    have e7 : ∀ lx_ : Lat w4.heap.size w4, lx_.w.cell? ⟨xY, 7, none⟩ = some (.int .i64 y7) := fun lx_ => by rw [lx_.cell _ _ Yl4]; exact Yc7
    refine wp_region_lat (by kernel_rfl) (by kernel_rfl) ?_
    repeat (go_big_quiet_step ((go_at_call 34; exact lat_of (Nat.le_refl _) (rsum_one2 p cap s a b c d _ (eX _) ⟨v2, u2⟩))))
    refine wpQuiet_nil ?_
    rintro w5 ⟨x5, hx5⟩
    have hb5 := x5.h
    rw [← hx5] at hb5
    clear hx5 x5 eX e0 e3 e7
    have hs5 := hb5.size
    have hpk5 := below_at hb5 (by omega) hpk4
    have Y_5 := below_at hb5 Yl4 Y_4
    have BW5 : Below w1.heap.size w1 w5 := BW4.trans (hb5.mono (by omega))
    clear hb5 Y_4 hpk4 BW4 Yc0 Yc1 Yc2 Yc3 Yc4 Yc5 Yc6 Yc7 Yc8 Ycf
    have Yc0 : w5.cell? ⟨xY, 0, none⟩ = some (.string s) := (blk_cell Y_5 0).trans rfl
    have Yc1 : w5.cell? ⟨xY, 1, none⟩ = some (.int .i64 y1) := (blk_cell Y_5 1).trans rfl
    have Yc2 : w5.cell? ⟨xY, 2, none⟩ = some (.int .i64 y2) := (blk_cell Y_5 2).trans rfl
    have Yc3 : w5.cell? ⟨xY, 3, none⟩ = some (.int .i64 y3) := (blk_cell Y_5 3).trans rfl
    have Yc4 : w5.cell? ⟨xY, 4, none⟩ = some (.int .i64 y4) := (blk_cell Y_5 4).trans rfl
    have Yc5 : w5.cell? ⟨xY, 5, none⟩ = some (.int .i64 y5) := (blk_cell Y_5 5).trans rfl
    have Yc6 : w5.cell? ⟨xY, 6, none⟩ = some (.int .i64 y6) := (blk_cell Y_5 6).trans rfl
    have Yc7 : w5.cell? ⟨xY, 7, none⟩ = some (.int .i64 y7) := (blk_cell Y_5 7).trans rfl
    have Yc8 : w5.cell? ⟨xY, 8, none⟩ = some (.int .i64 y8) := (blk_cell Y_5 8).trans rfl
    have Ycf := blk_free Y_5
    have Yl5 : xY < w5.heap.size := lt_of_at Y_5
    go_wp2
    rw [rounds_succ]
    go_upto_region 11 with fail
    have eX : ∀ lx_ : Lat w5.heap.size w5, lx_.w.heap[p]? = some (.cells #[.string s, .int .i64 a, .int .i64 b, .int .i64 c, .int .i64 d] 42 (0, 0)) := fun lx_ => (lx_.h.block p (by omega)).trans hpk5
    have e0 : ∀ lx_ : Lat w5.heap.size w5, lx_.w.cell? ⟨xY, 0, none⟩ = some (.string s) := fun lx_ => by rw [lx_.cell _ _ Yl5]; exact Yc0
    have e4 : ∀ lx_ : Lat w5.heap.size w5, lx_.w.cell? ⟨xY, 4, none⟩ = some (.int .i64 y4) := fun lx_ => by rw [lx_.cell _ _ Yl5]; exact Yc4
    have e8 : ∀ lx_ : Lat w5.heap.size w5, lx_.w.cell? ⟨xY, 8, none⟩ = some (.int .i64 y8) := fun lx_ => by rw [lx_.cell _ _ Yl5]; exact Yc8
    refine wp_region_lat (by kernel_rfl) (by kernel_rfl) ?_
    repeat (go_big_quiet_step ((go_at_call 34; exact lat_of (Nat.le_refl _) (rsum_one3 p cap s a b c d _ (eX _) ⟨v3, u3⟩))))
    refine wpQuiet_nil ?_
    rintro w6 ⟨x6, hx6⟩
    have hb6 := x6.h
    rw [← hx6] at hb6
    clear hx6 x6 eX e0 e4 e8
    have hs6 := hb6.size
    have hpk6 := below_at hb6 (by omega) hpk5
    have Y_6 := below_at hb6 Yl5 Y_5
    have BW6 : Below w1.heap.size w1 w6 := BW5.trans (hb6.mono (by omega))
    clear hb6 Y_5 hpk5 BW5 Yc0 Yc1 Yc2 Yc3 Yc4 Yc5 Yc6 Yc7 Yc8 Ycf
    have Yc0 : w6.cell? ⟨xY, 0, none⟩ = some (.string s) := (blk_cell Y_6 0).trans rfl
    have Yc1 : w6.cell? ⟨xY, 1, none⟩ = some (.int .i64 y1) := (blk_cell Y_6 1).trans rfl
    have Yc2 : w6.cell? ⟨xY, 2, none⟩ = some (.int .i64 y2) := (blk_cell Y_6 2).trans rfl
    have Yc3 : w6.cell? ⟨xY, 3, none⟩ = some (.int .i64 y3) := (blk_cell Y_6 3).trans rfl
    have Yc4 : w6.cell? ⟨xY, 4, none⟩ = some (.int .i64 y4) := (blk_cell Y_6 4).trans rfl
    have Yc5 : w6.cell? ⟨xY, 5, none⟩ = some (.int .i64 y5) := (blk_cell Y_6 5).trans rfl
    have Yc6 : w6.cell? ⟨xY, 6, none⟩ = some (.int .i64 y6) := (blk_cell Y_6 6).trans rfl
    have Yc7 : w6.cell? ⟨xY, 7, none⟩ = some (.int .i64 y7) := (blk_cell Y_6 7).trans rfl
    have Yc8 : w6.cell? ⟨xY, 8, none⟩ = some (.int .i64 y8) := (blk_cell Y_6 8).trans rfl
    have Ycf := blk_free Y_6
    have Yl6 : xY < w6.heap.size := lt_of_at Y_6
    go_wp2
    go_ret
    exact ⟨rfl, RefPost.same HR.out hB (hb1.trans (BW6.mono hs1))⟩
end Go.Proofs.Ytobgolceggeogaa
