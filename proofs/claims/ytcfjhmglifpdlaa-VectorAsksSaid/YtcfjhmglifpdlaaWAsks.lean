/- The contract of chapter 3's Cmp, and the walk of VectorAsks: whether two vectors are formed, within one another, and which comes first. No condition. -/
import Derived.Test.YtcfjhmglifpdlaaVec6
namespace Go.Proofs.Ytcfjhmglifpdlaa
open Go.RowKit
theorem nan_any (a : Int) (w : World) : Calls Try.prog 35 #[.int .i64 a] w fun e w' => e = .returned (.bool false) ∧ w = w' := by
  go_enter Try.func35, Try.ntmps35
  go_wp2
  go_ret
  exact ⟨by simp, rfl⟩
theorem cmpI_any (a b : Int) (w : World) : Calls Try.prog 32 #[.int .i64 a, .int .i64 b] w fun e w' => e = .returned (.int .i64 (cmpI a b)) ∧ w = w' := by
  go_enter Try.func32, Try.ntmps32
  go_wp2_with fail
  refine (nan_any _ _).mono ?_
  rintro e w1 ⟨rfl, rfl⟩
  go_wp2_with fail
  refine (nan_any _ _).mono ?_
  rintro e w1 ⟨rfl, rfl⟩
  by_cases h1 : a < b
  · have e1 : cmpI a b = -1 := by unfold cmpI; rw [if_pos h1]
    have H1 := hid e1
    clear e1
    go_wp2
    go_ret
    exact ⟨ret_i64 H1.out.symm, rfl⟩
  · by_cases h2 : b < a
    · have e1 : cmpI a b = 1 := by unfold cmpI; rw [if_neg h1, if_pos h2]
      have H1 := hid e1
      clear e1
      go_wp2
      go_ret
      exact ⟨ret_i64 H1.out.symm, rfl⟩
    · have e1 : cmpI a b = 0 := by unfold cmpI; rw [if_neg h1, if_neg h2]
      have H1 := hid e1
      clear e1
      go_wp2
      go_ret
      exact ⟨ret_i64 H1.out.symm, rfl⟩
set_option maxHeartbeats 1000000 in
theorem compare4 (g h : Nat) (a b c d a' b' c' d' : Int) (w : World) (x0 : w.cell? ⟨g, 0, none⟩ = some (.int .i64 a)) (x1 : w.cell? ⟨g, 1, none⟩ = some (.int .i64 b)) (x2 : w.cell? ⟨g, 2, none⟩ = some (.int .i64 c)) (x3 : w.cell? ⟨g, 3, none⟩ = some (.int .i64 d))
    (y0 : w.cell? ⟨h, 0, none⟩ = some (.int .i64 a')) (y1 : w.cell? ⟨h, 1, none⟩ = some (.int .i64 b')) (y2 : w.cell? ⟨h, 2, none⟩ = some (.int .i64 c')) (y3 : w.cell? ⟨h, 3, none⟩ = some (.int .i64 d')) :
    Calls Try.prog 25 #[.slice (some ⟨g, 0, none⟩) 4 4, .slice (some ⟨h, 0, none⟩) 4 4] w fun e w' => e = .returned (.int .i64 (cmpB a b c d a' b' c' d')) ∧ w = w' := by
  have hc : cmpB a b c d a' b' c' d' = if cmpI a a' ≠ 0 then cmpI a a' else if cmpI b b' ≠ 0 then cmpI b b' else if cmpI c c' ≠ 0 then cmpI c c' else cmpI d d' := rfl
  have HC := hid hc
  clear hc
  obtain ⟨k0, e0⟩ : ∃ k, cmpI a a' = k := ⟨_, rfl⟩
  obtain ⟨k1, e1⟩ : ∃ k, cmpI b b' = k := ⟨_, rfl⟩
  obtain ⟨k2, e2⟩ : ∃ k, cmpI c c' = k := ⟨_, rfl⟩
  obtain ⟨k3, e3⟩ : ∃ k, cmpI d d' = k := ⟨_, rfl⟩
  have c0 : ∀ W, Calls Try.prog 32 #[.int .i64 a, .int .i64 a'] W fun e w' => e = .returned (.int .i64 k0) ∧ W = w' := fun W => by have h := cmpI_any a a' W; rw [e0] at h; exact h
  have c1 : ∀ W, Calls Try.prog 32 #[.int .i64 b, .int .i64 b'] W fun e w' => e = .returned (.int .i64 k1) ∧ W = w' := fun W => by have h := cmpI_any b b' W; rw [e1] at h; exact h
  have c2 : ∀ W, Calls Try.prog 32 #[.int .i64 c, .int .i64 c'] W fun e w' => e = .returned (.int .i64 k2) ∧ W = w' := fun W => by have h := cmpI_any c c' W; rw [e2] at h; exact h
  have c3 : ∀ W, Calls Try.prog 32 #[.int .i64 d, .int .i64 d'] W fun e w' => e = .returned (.int .i64 k3) ∧ W = w' := fun W => by have h := cmpI_any d d' W; rw [e3] at h; exact h
  have C0 := hid c0
  have C1 := hid c1
  have C2 := hid c2
  have C3 := hid c3
  rw [e0, e1, e2, e3] at HC
  clear c0 c1 c2 c3 e0 e1 e2 e3
  go_enter Try.func25, Try.ntmps25
  go_wp2
  refine wp_loop_rounds 5 ?_
  rw [rounds_succ]
  go_wp2_with fail
  refine (C0.out _).mono ?_
  rintro e w1 ⟨rfl, rfl⟩
  go_wp2_with fail
  · have hk : (k0 != 0) = true := by assumption
    go_ret
    exact ⟨ret_i64 (by rw [HC.out, if_pos (by simpa using hk)]), rfl⟩
  have hk0 : ¬ (k0 ≠ 0) := by
    have : (k0 != 0) = false := by assumption
    simpa using this
  have K0 := hid hk0
  clear hk0
  rw [rounds_succ]
  go_wp2_with fail
  refine (C1.out _).mono ?_
  rintro e w1 ⟨rfl, rfl⟩
  go_wp2_with fail
  · have hk : (k1 != 0) = true := by assumption
    go_ret
    exact ⟨ret_i64 (by rw [HC.out, if_neg K0.out, if_pos (by simpa using hk)]), rfl⟩
  have hk1 : ¬ (k1 ≠ 0) := by
    have : (k1 != 0) = false := by assumption
    simpa using this
  have K1 := hid hk1
  clear hk1
  rw [rounds_succ]
  go_wp2_with fail
  refine (C2.out _).mono ?_
  rintro e w1 ⟨rfl, rfl⟩
  go_wp2_with fail
  · have hk : (k2 != 0) = true := by assumption
    go_ret
    exact ⟨ret_i64 (by rw [HC.out, if_neg K0.out, if_neg K1.out, if_pos (by simpa using hk)]), rfl⟩
  have hk2 : ¬ (k2 ≠ 0) := by
    have : (k2 != 0) = false := by assumption
    simpa using this
  have K2 := hid hk2
  clear hk2
  rw [rounds_succ]
  go_wp2_with fail
  refine (C3.out _).mono ?_
  rintro e w1 ⟨rfl, rfl⟩
  go_wp2_with fail
  · have hk : (k3 != 0) = true := by assumption
    go_ret
    exact ⟨ret_i64 (by rw [HC.out, if_neg K0.out, if_neg K1.out, if_neg K2.out]), rfl⟩
  have hk3 : k3 = 0 := by
    have : (k3 != 0) = false := by assumption
    simpa using this
  have K3 := hid hk3
  clear hk3
  rw [rounds_succ]
  go_wp2_with fail
  go_ret
  exact ⟨ret_i64 (by rw [HC.out, if_neg K0.out, if_neg K1.out, if_neg K2.out, K3.out]), rfl⟩
set_option maxHeartbeats 1000000 in
theorem cmpV_any (a b c d a' b' c' d' : Int) (w : World) :
    Calls Try.prog 20 #[.agg #[.int .i64 a, .int .i64 b, .int .i64 c, .int .i64 d], .agg #[.int .i64 a', .int .i64 b', .int .i64 c', .int .i64 d']] w fun e w' => e = .returned (.int .i64 (cmpB a b c d a' b' c' d')) ∧ Below w.heap.size w w' := by
  have hc : ∀ (x : Lat ((w.alloc (.cells #[.int .i64 a, .int .i64 b, .int .i64 c, .int .i64 d] 25)).alloc (.cells #[.int .i64 a', .int .i64 b', .int .i64 c', .int .i64 d'] 25)).heap.size ((w.alloc (.cells #[.int .i64 a, .int .i64 b, .int .i64 c, .int .i64 d] 25)).alloc (.cells #[.int .i64 a', .int .i64 b', .int .i64 c', .int .i64 d'] 25))), Calls Try.prog 25 #[.slice (some ⟨w.heap.size, 0, none⟩) 4 4, .slice (some ⟨w.heap.size + 1, 0, none⟩) 4 4] x.w fun e w' => e = .returned (.int .i64 (cmpB a b c d a' b' c' d')) ∧ Below x.w.heap.size x.w w' := fun x => by
    have g1 : ∀ i, x.w.cell? ⟨w.heap.size, i, none⟩ = (#[.int .i64 a, .int .i64 b, .int .i64 c, .int .i64 d] : Array Value)[i]? := fun i => by
      rw [x.cell _ _ (by simp; omega)]
      exact blk_cell (t := 25) (f := (0, 0)) (by (repeat (first | (with_reducible assumption) | (with_reducible exact alloc_at _ _) | ((with_reducible apply alloc_at'); (simp; done)) | (with_reducible apply alloc_at_lt) | (with_reducible apply heap_drew_at) | (with_reducible apply heap_drewN_at) | (with_reducible apply heap_setCell_same) | ((with_reducible apply heap_set_ne); (first | omega | (simp; done) | (simp; omega)))))) i
    have g2 : ∀ i, x.w.cell? ⟨w.heap.size + 1, i, none⟩ = (#[.int .i64 a', .int .i64 b', .int .i64 c', .int .i64 d'] : Array Value)[i]? := fun i => by
      rw [x.cell _ _ (by simp)]
      exact blk_cell (t := 25) (f := (0, 0)) (by (repeat (first | (with_reducible assumption) | (with_reducible exact alloc_at _ _) | ((with_reducible apply alloc_at'); (simp; done)) | (with_reducible apply alloc_at_lt) | (with_reducible apply heap_drew_at) | (with_reducible apply heap_drewN_at) | (with_reducible apply heap_setCell_same) | ((with_reducible apply heap_set_ne); (first | omega | (simp; done) | (simp; omega)))))) i
    exact (compare4 _ _ a b c d a' b' c' d' x.w (g1 0) (g1 1) (g1 2) (g1 3) (g2 0) (g2 1) (g2 2) (g2 3)).mono fun e w' ⟨he, hw⟩ => ⟨he, hw ▸ Below.refl _ _⟩
  have HC := hid hc
  clear hc
  go_enter Try.func20, Try.ntmps20
  go_wp2_with fail
  refine wp_region_lat (by kernel_rfl) (by kernel_rfl) ?_
  repeat (go_big_quiet_step ((go_at_call 25; exact lat_of (Nat.le_refl _) (HC.out _))))
  refine wpQuiet_nil ?_
  rintro w4 ⟨x4, hx4⟩
  have hb4 := x4.h
  rw [← hx4] at hb4
  clear hx4 x4
  go_wp2
  go_ret
  exact ⟨rfl, Below.trans (by repeat (first | with_reducible assumption | with_reducible exact Below.refl _ _ | with_reducible refine Below.drew ?_ | with_reducible refine below_drewN ?_ _ | with_reducible refine below_alloc ?_ _ | with_reducible refine Below.alloc ?_ (by first | omega | (simp; done) | (simp; omega)) _ | with_reducible refine Below.setCell ?_ (by first | omega | (simp; done) | (simp; omega)) _)) (hb4.mono (by simp; omega))⟩
set_option maxHeartbeats 2000000 in
theorem vectorAsks_any (a b c d a' b' c' d' : Int) (w : World) :
    Calls Try.prog 6 #[.agg #[.int .i64 a, .int .i64 b, .int .i64 c, .int .i64 d], .agg #[.int .i64 a', .int .i64 b', .int .i64 c', .int .i64 d']] w fun e w' => e = .returned (.bool true) ∧ Below w.heap.size w w' := by
  have e0 : ∀ x : Lat ((w.alloc (.cells #[.int .i64 a, .int .i64 b, .int .i64 c, .int .i64 d] 25)).alloc (.cells #[.int .i64 a', .int .i64 b', .int .i64 c', .int .i64 d'] 25)).heap.size ((w.alloc (.cells #[.int .i64 a, .int .i64 b, .int .i64 c, .int .i64 d] 25)).alloc (.cells #[.int .i64 a', .int .i64 b', .int .i64 c', .int .i64 d'] 25)), x.w.cell? ⟨w.heap.size, 0, none⟩ = some (.int .i64 a) := fun x => by
    rw [x.cell _ _ (by simp; omega)]
    exact blk_cell (c := #[.int .i64 a, .int .i64 b, .int .i64 c, .int .i64 d]) (t := 25) (f := (0, 0)) (by (repeat (first | (with_reducible assumption) | (with_reducible exact alloc_at _ _) | ((with_reducible apply alloc_at'); (simp; done)) | (with_reducible apply alloc_at_lt) | (with_reducible apply heap_drew_at) | (with_reducible apply heap_drewN_at) | (with_reducible apply heap_setCell_same) | ((with_reducible apply heap_set_ne); (first | omega | (simp; done) | (simp; omega)))))) 0
  have f0 : ∀ x : Lat ((w.alloc (.cells #[.int .i64 a, .int .i64 b, .int .i64 c, .int .i64 d] 25)).alloc (.cells #[.int .i64 a', .int .i64 b', .int .i64 c', .int .i64 d'] 25)).heap.size ((w.alloc (.cells #[.int .i64 a, .int .i64 b, .int .i64 c, .int .i64 d] 25)).alloc (.cells #[.int .i64 a', .int .i64 b', .int .i64 c', .int .i64 d'] 25)), x.w.cell? ⟨w.heap.size + 1, 0, none⟩ = some (.int .i64 a') := fun x => by
    rw [x.cell _ _ (by simp)]
    exact blk_cell (c := #[.int .i64 a', .int .i64 b', .int .i64 c', .int .i64 d']) (t := 25) (f := (0, 0)) (by (repeat (first | (with_reducible assumption) | (with_reducible exact alloc_at _ _) | ((with_reducible apply alloc_at'); (simp; done)) | (with_reducible apply alloc_at_lt) | (with_reducible apply heap_drew_at) | (with_reducible apply heap_drewN_at) | (with_reducible apply heap_setCell_same) | ((with_reducible apply heap_set_ne); (first | omega | (simp; done) | (simp; omega)))))) 0
  have e1 : ∀ x : Lat ((w.alloc (.cells #[.int .i64 a, .int .i64 b, .int .i64 c, .int .i64 d] 25)).alloc (.cells #[.int .i64 a', .int .i64 b', .int .i64 c', .int .i64 d'] 25)).heap.size ((w.alloc (.cells #[.int .i64 a, .int .i64 b, .int .i64 c, .int .i64 d] 25)).alloc (.cells #[.int .i64 a', .int .i64 b', .int .i64 c', .int .i64 d'] 25)), x.w.cell? ⟨w.heap.size, 1, none⟩ = some (.int .i64 b) := fun x => by
    rw [x.cell _ _ (by simp; omega)]
    exact blk_cell (c := #[.int .i64 a, .int .i64 b, .int .i64 c, .int .i64 d]) (t := 25) (f := (0, 0)) (by (repeat (first | (with_reducible assumption) | (with_reducible exact alloc_at _ _) | ((with_reducible apply alloc_at'); (simp; done)) | (with_reducible apply alloc_at_lt) | (with_reducible apply heap_drew_at) | (with_reducible apply heap_drewN_at) | (with_reducible apply heap_setCell_same) | ((with_reducible apply heap_set_ne); (first | omega | (simp; done) | (simp; omega)))))) 1
  have f1 : ∀ x : Lat ((w.alloc (.cells #[.int .i64 a, .int .i64 b, .int .i64 c, .int .i64 d] 25)).alloc (.cells #[.int .i64 a', .int .i64 b', .int .i64 c', .int .i64 d'] 25)).heap.size ((w.alloc (.cells #[.int .i64 a, .int .i64 b, .int .i64 c, .int .i64 d] 25)).alloc (.cells #[.int .i64 a', .int .i64 b', .int .i64 c', .int .i64 d'] 25)), x.w.cell? ⟨w.heap.size + 1, 1, none⟩ = some (.int .i64 b') := fun x => by
    rw [x.cell _ _ (by simp)]
    exact blk_cell (c := #[.int .i64 a', .int .i64 b', .int .i64 c', .int .i64 d']) (t := 25) (f := (0, 0)) (by (repeat (first | (with_reducible assumption) | (with_reducible exact alloc_at _ _) | ((with_reducible apply alloc_at'); (simp; done)) | (with_reducible apply alloc_at_lt) | (with_reducible apply heap_drew_at) | (with_reducible apply heap_drewN_at) | (with_reducible apply heap_setCell_same) | ((with_reducible apply heap_set_ne); (first | omega | (simp; done) | (simp; omega)))))) 1
  have e2 : ∀ x : Lat ((w.alloc (.cells #[.int .i64 a, .int .i64 b, .int .i64 c, .int .i64 d] 25)).alloc (.cells #[.int .i64 a', .int .i64 b', .int .i64 c', .int .i64 d'] 25)).heap.size ((w.alloc (.cells #[.int .i64 a, .int .i64 b, .int .i64 c, .int .i64 d] 25)).alloc (.cells #[.int .i64 a', .int .i64 b', .int .i64 c', .int .i64 d'] 25)), x.w.cell? ⟨w.heap.size, 2, none⟩ = some (.int .i64 c) := fun x => by
    rw [x.cell _ _ (by simp; omega)]
    exact blk_cell (c := #[.int .i64 a, .int .i64 b, .int .i64 c, .int .i64 d]) (t := 25) (f := (0, 0)) (by (repeat (first | (with_reducible assumption) | (with_reducible exact alloc_at _ _) | ((with_reducible apply alloc_at'); (simp; done)) | (with_reducible apply alloc_at_lt) | (with_reducible apply heap_drew_at) | (with_reducible apply heap_drewN_at) | (with_reducible apply heap_setCell_same) | ((with_reducible apply heap_set_ne); (first | omega | (simp; done) | (simp; omega)))))) 2
  have f2 : ∀ x : Lat ((w.alloc (.cells #[.int .i64 a, .int .i64 b, .int .i64 c, .int .i64 d] 25)).alloc (.cells #[.int .i64 a', .int .i64 b', .int .i64 c', .int .i64 d'] 25)).heap.size ((w.alloc (.cells #[.int .i64 a, .int .i64 b, .int .i64 c, .int .i64 d] 25)).alloc (.cells #[.int .i64 a', .int .i64 b', .int .i64 c', .int .i64 d'] 25)), x.w.cell? ⟨w.heap.size + 1, 2, none⟩ = some (.int .i64 c') := fun x => by
    rw [x.cell _ _ (by simp)]
    exact blk_cell (c := #[.int .i64 a', .int .i64 b', .int .i64 c', .int .i64 d']) (t := 25) (f := (0, 0)) (by (repeat (first | (with_reducible assumption) | (with_reducible exact alloc_at _ _) | ((with_reducible apply alloc_at'); (simp; done)) | (with_reducible apply alloc_at_lt) | (with_reducible apply heap_drew_at) | (with_reducible apply heap_drewN_at) | (with_reducible apply heap_setCell_same) | ((with_reducible apply heap_set_ne); (first | omega | (simp; done) | (simp; omega)))))) 2
  have e3 : ∀ x : Lat ((w.alloc (.cells #[.int .i64 a, .int .i64 b, .int .i64 c, .int .i64 d] 25)).alloc (.cells #[.int .i64 a', .int .i64 b', .int .i64 c', .int .i64 d'] 25)).heap.size ((w.alloc (.cells #[.int .i64 a, .int .i64 b, .int .i64 c, .int .i64 d] 25)).alloc (.cells #[.int .i64 a', .int .i64 b', .int .i64 c', .int .i64 d'] 25)), x.w.cell? ⟨w.heap.size, 3, none⟩ = some (.int .i64 d) := fun x => by
    rw [x.cell _ _ (by simp; omega)]
    exact blk_cell (c := #[.int .i64 a, .int .i64 b, .int .i64 c, .int .i64 d]) (t := 25) (f := (0, 0)) (by (repeat (first | (with_reducible assumption) | (with_reducible exact alloc_at _ _) | ((with_reducible apply alloc_at'); (simp; done)) | (with_reducible apply alloc_at_lt) | (with_reducible apply heap_drew_at) | (with_reducible apply heap_drewN_at) | (with_reducible apply heap_setCell_same) | ((with_reducible apply heap_set_ne); (first | omega | (simp; done) | (simp; omega)))))) 3
  have f3 : ∀ x : Lat ((w.alloc (.cells #[.int .i64 a, .int .i64 b, .int .i64 c, .int .i64 d] 25)).alloc (.cells #[.int .i64 a', .int .i64 b', .int .i64 c', .int .i64 d'] 25)).heap.size ((w.alloc (.cells #[.int .i64 a, .int .i64 b, .int .i64 c, .int .i64 d] 25)).alloc (.cells #[.int .i64 a', .int .i64 b', .int .i64 c', .int .i64 d'] 25)), x.w.cell? ⟨w.heap.size + 1, 3, none⟩ = some (.int .i64 d') := fun x => by
    rw [x.cell _ _ (by simp)]
    exact blk_cell (c := #[.int .i64 a', .int .i64 b', .int .i64 c', .int .i64 d']) (t := 25) (f := (0, 0)) (by (repeat (first | (with_reducible assumption) | (with_reducible exact alloc_at _ _) | ((with_reducible apply alloc_at'); (simp; done)) | (with_reducible apply alloc_at_lt) | (with_reducible apply heap_drew_at) | (with_reducible apply heap_drewN_at) | (with_reducible apply heap_setCell_same) | ((with_reducible apply heap_set_ne); (first | omega | (simp; done) | (simp; omega)))))) 3
  go_enter Try.func6, Try.ntmps6
  go_wp2_with fail
  refine wp_region_lat (by kernel_rfl) (by kernel_rfl) ?_
  repeat (go_big_quiet_step ((first
    | (go_at_call 9; exact lat_of (Nat.le_refl _) (awake_any _))
    | (go_at_call 16; exact lat_of (Nat.le_refl _) (formed_any _ _ _ _ _))
    | (go_at_call 18; exact lat_of (Nat.le_refl _) (rformed_any _ _ _ _ _))
    | (go_at_call 17; exact lat_of (Nat.le_refl _) (fits_any _ _ _ _ _ _ _ _ _))
    | (go_at_call 19; exact lat_of (Nat.le_refl _) (rfits_any _ _ _ _ _ _ _ _ _))
    | (go_at_call 20; exact lat_of (Nat.le_refl _) (cmpV_any _ _ _ _ _ _ _ _ _))
    | (go_at_call 21; exact lat_of (Nat.le_refl _) (rcmp_any _ _ _ _ _ _ _ _ _)))))
  refine wpQuiet_nil ?_
  rintro w4 ⟨x4, hx4⟩
  have hb4 := x4.h
  rw [← hx4] at hb4
  clear hx4 x4 e0 e1 e2 e3 f0 f1 f2 f3
  go_wp2
  go_ret
  exact ⟨by first | rfl | simp, Below.trans (by repeat (first | with_reducible assumption | with_reducible exact Below.refl _ _ | with_reducible refine Below.drew ?_ | with_reducible refine below_drewN ?_ _ | with_reducible refine below_alloc ?_ _ | with_reducible refine Below.alloc ?_ (by first | omega | (simp; done) | (simp; omega)) _ | with_reducible refine Below.setCell ?_ (by first | omega | (simp; done) | (simp; omega)) _)) (hb4.mono (by simp; omega))⟩
end Go.Proofs.Ytcfjhmglifpdlaa
