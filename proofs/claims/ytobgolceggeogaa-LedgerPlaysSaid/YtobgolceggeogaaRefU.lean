/- Contracts of the reference's Used and Left of chapter 13. -/
import Derived.Test.YtobgolceggeogaaRefO
namespace Go.Proofs.Ytobgolceggeogaa
open Go.RowKit
set_option maxRecDepth 20000 in
set_option maxHeartbeats 4000000 in
theorem rused_none (B R : Nat) (v : Value) (l : List RA) (s : ByteArray) (w : World) (hR : RefL B w R v l) (hm : l.length ≤ 100000) (hk : findI l s = -1) :
    Calls Try.prog 26 #[.pointer (some ⟨R, 0, none⟩), .string s] w fun e w' => e = .returned (.tuple #[vv zeroV, .int .i64 3]) ∧ Below w.heap.size w w' := by
  simp only [vv, zeroV]
  have HR := hid hR
  have hlR := lt_of_at hR.2.1
  have hfi : ∀ W, Below w.heap.size w W → Calls Try.prog 32 #[.pointer (some ⟨R, 0, none⟩), .string s] W fun e w' => e = .returned (.int .i64 (findI l s)) ∧ Below W.heap.size W w' := fun W h => rfind_any B R _ l s W (HR.out.below h) hm
  rw [hk] at hfi
  clear hR
  go_enter Try.func26, Try.ntmps26
  go_wp2_with fail
  refine (hfi _ (by repeat (first | with_reducible assumption | with_reducible exact Below.refl _ _ | with_reducible refine Below.drew ?_ | with_reducible refine below_drewN ?_ _ | with_reducible refine below_alloc ?_ _ | with_reducible refine Below.alloc ?_ (by first | omega | (simp; done) | (simp; omega)) _ | with_reducible refine Below.setCell ?_ (by first | omega | (simp; done) | (simp; omega)) _ | with_reducible refine below_setRow ?_ (by first | omega | (simp; done) | (simp; omega)) _))).mono ?_
  rintro e w1 ⟨rfl, hb1⟩
  have hs1 := hb1.size
  simp only [World.size_alloc] at hs1
  have B1 : Below w.heap.size w w1 := Below.trans (by repeat (first | with_reducible assumption | with_reducible exact Below.refl _ _ | with_reducible refine Below.drew ?_ | with_reducible refine below_drewN ?_ _ | with_reducible refine below_alloc ?_ _ | with_reducible refine Below.alloc ?_ (by first | omega | (simp; done) | (simp; omega)) _ | with_reducible refine Below.setCell ?_ (by first | omega | (simp; done) | (simp; omega)) _ | with_reducible refine below_setRow ?_ (by first | omega | (simp; done) | (simp; omega)) _)) (hb1.mono (by first | omega | (simp; done) | (simp; omega)))
  have z := below_at hb1 (n := w.heap.size) (by first | omega | (simp; done) | (simp; omega)) (by (repeat (first | (with_reducible assumption) | (with_reducible exact alloc_at _ _) | ((with_reducible apply alloc_at'); (simp; done)) | (with_reducible apply alloc_at_lt) | (with_reducible apply heap_drew_at) | (with_reducible apply heap_drewN_at) | (with_reducible apply heap_setCell_same) | ((with_reducible apply heap_set_ne); (first | omega | (dsimp only; omega) | (simp; done) | (simp; omega))) | (with_reducible apply setRow_at) | ((with_reducible apply setRow_ne); (first | omega | (dsimp only; omega) | (simp; done) | (simp; omega))))))
  obtain ⟨z0, z1, z2, z3, zf⟩ := four z
  have hl1 : w.heap.size < w1.heap.size := by omega
  have Z := hid z
  clear z hb1 hfi
  go_wp2
  have z := Z.out
  refine ret_row2 rfl w.heap.size #[.int .i64 0, .int .i64 0, .int .i64 0, .int .i64 0] 29 _ rfl Try.underlying29 rfl infoV rfl (by apply Exists.intro; refine ⟨?_, ?_⟩; (focus ((repeat (first | (with_reducible assumption) | (with_reducible exact alloc_at _ _) | ((with_reducible apply alloc_at'); (simp; done)) | (with_reducible apply alloc_at_lt) | (with_reducible apply heap_drew_at) | (with_reducible apply heap_drewN_at) | (with_reducible apply heap_setCell_same) | ((with_reducible apply heap_set_ne); (first | omega | (dsimp only; omega) | (simp; done) | (simp; omega))) | (with_reducible apply setRow_at) | ((with_reducible apply setRow_ne); (first | omega | (dsimp only; omega) | (simp; done) | (simp; omega))))))); simp) ⟨rfl, (by repeat (first | with_reducible assumption | with_reducible exact Below.refl _ _ | with_reducible refine Below.drew ?_ | with_reducible refine below_drewN ?_ _ | with_reducible refine below_alloc ?_ _ | with_reducible refine Below.alloc ?_ (by first | omega | (simp; done) | (simp; omega)) _ | with_reducible refine Below.setCell ?_ (by first | omega | (simp; done) | (simp; omega)) _ | with_reducible refine below_setRow ?_ (by first | omega | (simp; done) | (simp; omega)) _))⟩
set_option maxRecDepth 20000 in
set_option maxHeartbeats 4000000 in
theorem rused_some (B R : Nat) (v : Value) (l : List RA) (s : ByteArray) (w : World) (hR : RefL B w R v l) (hm : l.length ≤ 100000) (k : Nat) (hk : findI l s = k) (hkl : k < l.length) :
    Calls Try.prog 26 #[.pointer (some ⟨R, 0, none⟩), .string s] w fun e w' => e = .returned (.tuple #[vv l[k].2.2, .int .i64 0]) ∧ Below w.heap.size w w' := by
  obtain ⟨y, hy⟩ : ∃ y, y = l[k] := ⟨_, rfl⟩
  rw [← hy]
  obtain ⟨g, cap, rfl, hg, hgR, hgl, hgf, hcell⟩ := hR.row (by omega)
  have hcy : ∀ c, c < 9 → w.cell? ⟨g, k * 9 + c, none⟩ = (cellsA y)[c]? := fun c hc => by rw [hy]; exact hcell k hkl c hc
  have r0 : w.cell? ⟨R, 0, none⟩ = some (.slice (some ⟨g, 0, none⟩) l.length cap) := (blk_cell hR.2.1 0).trans rfl
  clear hcell hy
  obtain ⟨y0, ⟨y1, y2, y3, y4⟩, y5, y6, y7, y8⟩ := y
  simp only [vv]
  have HR := hid hR
  have hlR := lt_of_at hR.2.1
  have hfi : ∀ W, Below w.heap.size w W → Calls Try.prog 32 #[.pointer (some ⟨R, 0, none⟩), .string s] W fun e w' => e = .returned (.int .i64 (findI l s)) ∧ Below W.heap.size W w' := fun W h => rfind_any B R _ l s W (HR.out.below h) hm
  rw [hk] at hfi
  clear hR
  go_enter Try.func26, Try.ntmps26
  go_wp2_with fail
  refine (hfi _ (by repeat (first | with_reducible assumption | with_reducible exact Below.refl _ _ | with_reducible refine Below.drew ?_ | with_reducible refine below_drewN ?_ _ | with_reducible refine below_alloc ?_ _ | with_reducible refine Below.alloc ?_ (by first | omega | (simp; done) | (simp; omega)) _ | with_reducible refine Below.setCell ?_ (by first | omega | (simp; done) | (simp; omega)) _ | with_reducible refine below_setRow ?_ (by first | omega | (simp; done) | (simp; omega)) _))).mono ?_
  rintro e w1 ⟨rfl, hb1⟩
  have hs1 := hb1.size
  simp only [World.size_alloc] at hs1
  have B1 : Below w.heap.size w w1 := Below.trans (by repeat (first | with_reducible assumption | with_reducible exact Below.refl _ _ | with_reducible refine Below.drew ?_ | with_reducible refine below_drewN ?_ _ | with_reducible refine below_alloc ?_ _ | with_reducible refine Below.alloc ?_ (by first | omega | (simp; done) | (simp; omega)) _ | with_reducible refine Below.setCell ?_ (by first | omega | (simp; done) | (simp; omega)) _ | with_reducible refine below_setRow ?_ (by first | omega | (simp; done) | (simp; omega)) _)) (hb1.mono (by first | omega | (simp; done) | (simp; omega)))
  have z := below_at hb1 (n := w.heap.size) (by first | omega | (simp; done) | (simp; omega)) (by (repeat (first | (with_reducible assumption) | (with_reducible exact alloc_at _ _) | ((with_reducible apply alloc_at'); (simp; done)) | (with_reducible apply alloc_at_lt) | (with_reducible apply heap_drew_at) | (with_reducible apply heap_drewN_at) | (with_reducible apply heap_setCell_same) | ((with_reducible apply heap_set_ne); (first | omega | (dsimp only; omega) | (simp; done) | (simp; omega))) | (with_reducible apply setRow_at) | ((with_reducible apply setRow_ne); (first | omega | (dsimp only; omega) | (simp; done) | (simp; omega))))))
  obtain ⟨z0, z1, z2, z3, zf⟩ := four z
  have hl1 : w.heap.size < w1.heap.size := by omega
  have Z := hid z
  clear z hb1 hfi
  have rc : w1.cell? ⟨R, 0, none⟩ = some (.slice (some ⟨g, 0, none⟩) l.length cap) := (B1.cell (p := ⟨R, 0, none⟩) hlR).trans r0
  have y_1 : w1.cell? ⟨g, k * 9 + 1, none⟩ = some (.int .i64 y1) := (B1.cell (p := ⟨g, k * 9 + 1, none⟩) hgl).trans ((hcy 1 (by omega)).trans rfl)
  have y_2 : w1.cell? ⟨g, k * 9 + 1 + 1, none⟩ = some (.int .i64 y2) := (B1.cell (p := ⟨g, k * 9 + 2, none⟩) hgl).trans ((hcy 2 (by omega)).trans rfl)
  have y_3 : w1.cell? ⟨g, k * 9 + 1 + 2, none⟩ = some (.int .i64 y3) := (B1.cell (p := ⟨g, k * 9 + 3, none⟩) hgl).trans ((hcy 3 (by omega)).trans rfl)
  have y_4 : w1.cell? ⟨g, k * 9 + 1 + 3, none⟩ = some (.int .i64 y4) := (B1.cell (p := ⟨g, k * 9 + 4, none⟩) hgl).trans ((hcy 4 (by omega)).trans rfl)
  have y_5 : w1.cell? ⟨g, k * 9 + 5, none⟩ = some (.int .i64 y5) := (B1.cell (p := ⟨g, k * 9 + 5, none⟩) hgl).trans ((hcy 5 (by omega)).trans rfl)
  have y_6 : w1.cell? ⟨g, k * 9 + 5 + 1, none⟩ = some (.int .i64 y6) := (B1.cell (p := ⟨g, k * 9 + 6, none⟩) hgl).trans ((hcy 6 (by omega)).trans rfl)
  have y_7 : w1.cell? ⟨g, k * 9 + 5 + 2, none⟩ = some (.int .i64 y7) := (B1.cell (p := ⟨g, k * 9 + 7, none⟩) hgl).trans ((hcy 7 (by omega)).trans rfl)
  have y_8 : w1.cell? ⟨g, k * 9 + 5 + 3, none⟩ = some (.int .i64 y8) := (B1.cell (p := ⟨g, k * 9 + 8, none⟩) hgl).trans ((hcy 8 (by omega)).trans rfl)
  have hgl1 : g < w1.heap.size := by omega
  have hlR1 : R < w1.heap.size := by omega
  clear hcy
  go_wp2
  try go_region_held3 (fun w' => w'.cell? ⟨R, 0, none⟩ = some (.slice (some ⟨g, 0, none⟩) l.length cap) ∧ w'.cell? ⟨g, k * 9 + 1, none⟩ = some (.int .i64 y1) ∧ w'.cell? ⟨g, k * 9 + 1 + 1, none⟩ = some (.int .i64 y2) ∧ w'.cell? ⟨g, k * 9 + 1 + 2, none⟩ = some (.int .i64 y3) ∧ w'.cell? ⟨g, k * 9 + 1 + 3, none⟩ = some (.int .i64 y4) ∧ w'.cell? ⟨g, k * 9 + 5, none⟩ = some (.int .i64 y5) ∧ w'.cell? ⟨g, k * 9 + 5 + 1, none⟩ = some (.int .i64 y6) ∧ w'.cell? ⟨g, k * 9 + 5 + 2, none⟩ = some (.int .i64 y7) ∧ w'.cell? ⟨g, k * 9 + 5 + 3, none⟩ = some (.int .i64 y8)) (go_keep) (fail)
  all_goals
    try go_wp2
    have z := Z.out
    refine ret_row2 rfl w.heap.size #[.int .i64 y5, .int .i64 y6, .int .i64 y7, .int .i64 y8] 29 _ rfl Try.underlying29 rfl infoV rfl (by apply Exists.intro; refine ⟨?_, ?_⟩; (focus ((repeat (first | (with_reducible assumption) | (with_reducible exact alloc_at _ _) | ((with_reducible apply alloc_at'); (simp; done)) | (with_reducible apply alloc_at_lt) | (with_reducible apply heap_drew_at) | (with_reducible apply heap_drewN_at) | (with_reducible apply heap_setCell_same) | ((with_reducible apply heap_set_ne); (first | omega | (dsimp only; omega) | (simp; done) | (simp; omega))) | (with_reducible apply setRow_at) | ((with_reducible apply setRow_ne); (first | omega | (dsimp only; omega) | (simp; done) | (simp; omega))))))); simp) ⟨rfl, (by repeat (first | with_reducible assumption | with_reducible exact Below.refl _ _ | with_reducible refine Below.drew ?_ | with_reducible refine below_drewN ?_ _ | with_reducible refine below_alloc ?_ _ | with_reducible refine Below.alloc ?_ (by first | omega | (simp; done) | (simp; omega)) _ | with_reducible refine Below.setCell ?_ (by first | omega | (simp; done) | (simp; omega)) _ | with_reducible refine below_setRow ?_ (by first | omega | (simp; done) | (simp; omega)) _))⟩
set_option maxRecDepth 20000 in
set_option maxHeartbeats 4000000 in
theorem rleft_none (B R : Nat) (v : Value) (l : List RA) (s : ByteArray) (w : World) (hR : RefL B w R v l) (hm : l.length ≤ 100000) (hk : findI l s = -1) :
    Calls Try.prog 19 #[.pointer (some ⟨R, 0, none⟩), .string s] w fun e w' => e = .returned (.tuple #[vv zeroV, .int .i64 3]) ∧ Below w.heap.size w w' := by
  simp only [vv, zeroV]
  have HR := hid hR
  have hlR := lt_of_at hR.2.1
  have hfi : ∀ W, Below w.heap.size w W → Calls Try.prog 32 #[.pointer (some ⟨R, 0, none⟩), .string s] W fun e w' => e = .returned (.int .i64 (findI l s)) ∧ Below W.heap.size W w' := fun W h => rfind_any B R _ l s W (HR.out.below h) hm
  rw [hk] at hfi
  clear hR
  go_enter Try.func19, Try.ntmps19
  go_wp2_with fail
  refine (hfi _ (by repeat (first | with_reducible assumption | with_reducible exact Below.refl _ _ | with_reducible refine Below.drew ?_ | with_reducible refine below_drewN ?_ _ | with_reducible refine below_alloc ?_ _ | with_reducible refine Below.alloc ?_ (by first | omega | (simp; done) | (simp; omega)) _ | with_reducible refine Below.setCell ?_ (by first | omega | (simp; done) | (simp; omega)) _ | with_reducible refine below_setRow ?_ (by first | omega | (simp; done) | (simp; omega)) _))).mono ?_
  rintro e w1 ⟨rfl, hb1⟩
  have hs1 := hb1.size
  simp only [World.size_alloc] at hs1
  have B1 : Below w.heap.size w w1 := Below.trans (by repeat (first | with_reducible assumption | with_reducible exact Below.refl _ _ | with_reducible refine Below.drew ?_ | with_reducible refine below_drewN ?_ _ | with_reducible refine below_alloc ?_ _ | with_reducible refine Below.alloc ?_ (by first | omega | (simp; done) | (simp; omega)) _ | with_reducible refine Below.setCell ?_ (by first | omega | (simp; done) | (simp; omega)) _ | with_reducible refine below_setRow ?_ (by first | omega | (simp; done) | (simp; omega)) _)) (hb1.mono (by first | omega | (simp; done) | (simp; omega)))
  have z := below_at hb1 (n := w.heap.size) (by first | omega | (simp; done) | (simp; omega)) (by (repeat (first | (with_reducible assumption) | (with_reducible exact alloc_at _ _) | ((with_reducible apply alloc_at'); (simp; done)) | (with_reducible apply alloc_at_lt) | (with_reducible apply heap_drew_at) | (with_reducible apply heap_drewN_at) | (with_reducible apply heap_setCell_same) | ((with_reducible apply heap_set_ne); (first | omega | (dsimp only; omega) | (simp; done) | (simp; omega))) | (with_reducible apply setRow_at) | ((with_reducible apply setRow_ne); (first | omega | (dsimp only; omega) | (simp; done) | (simp; omega))))))
  obtain ⟨z0, z1, z2, z3, zf⟩ := four z
  have hl1 : w.heap.size < w1.heap.size := by omega
  have Z := hid z
  clear z hb1 hfi
  go_wp2
  have z := Z.out
  refine ret_row2 rfl w.heap.size #[.int .i64 0, .int .i64 0, .int .i64 0, .int .i64 0] 29 _ rfl Try.underlying29 rfl infoV rfl (by apply Exists.intro; refine ⟨?_, ?_⟩; (focus ((repeat (first | (with_reducible assumption) | (with_reducible exact alloc_at _ _) | ((with_reducible apply alloc_at'); (simp; done)) | (with_reducible apply alloc_at_lt) | (with_reducible apply heap_drew_at) | (with_reducible apply heap_drewN_at) | (with_reducible apply heap_setCell_same) | ((with_reducible apply heap_set_ne); (first | omega | (dsimp only; omega) | (simp; done) | (simp; omega))) | (with_reducible apply setRow_at) | ((with_reducible apply setRow_ne); (first | omega | (dsimp only; omega) | (simp; done) | (simp; omega))))))); simp) ⟨rfl, (by repeat (first | with_reducible assumption | with_reducible exact Below.refl _ _ | with_reducible refine Below.drew ?_ | with_reducible refine below_drewN ?_ _ | with_reducible refine below_alloc ?_ _ | with_reducible refine Below.alloc ?_ (by first | omega | (simp; done) | (simp; omega)) _ | with_reducible refine Below.setCell ?_ (by first | omega | (simp; done) | (simp; omega)) _ | with_reducible refine below_setRow ?_ (by first | omega | (simp; done) | (simp; omega)) _))⟩
set_option maxRecDepth 20000 in
set_option maxHeartbeats 4000000 in
theorem rleft_some (B R : Nat) (v : Value) (l : List RA) (s : ByteArray) (w : World) (hR : RefL B w R v l) (hm : l.length ≤ 100000) (k : Nat) (hk : findI l s = k) (hkl : k < l.length) (hok : okV l[k].2.1 = true ∧ okV l[k].2.2 = true) :
    Calls Try.prog 19 #[.pointer (some ⟨R, 0, none⟩), .string s] w fun e w' => e = .returned (.tuple #[vv (max 0 (l[k].2.1.1 - l[k].2.2.1), max 0 (l[k].2.1.2.1 - l[k].2.2.2.1), max 0 (l[k].2.1.2.2.1 - l[k].2.2.2.2.1), max 0 (l[k].2.1.2.2.2 - l[k].2.2.2.2.2)), .int .i64 0]) ∧ Below w.heap.size w w' := by
  obtain ⟨hok1, hok2⟩ := hok
  obtain ⟨y, hy⟩ : ∃ y, y = l[k] := ⟨_, rfl⟩
  rw [← hy] at hok1 hok2
  rw [← hy]
  obtain ⟨g, cap, rfl, hg, hgR, hgl, hgf, hcell⟩ := hR.row (by omega)
  have hcy : ∀ c, c < 9 → w.cell? ⟨g, k * 9 + c, none⟩ = (cellsA y)[c]? := fun c hc => by rw [hy]; exact hcell k hkl c hc
  have r0 : w.cell? ⟨R, 0, none⟩ = some (.slice (some ⟨g, 0, none⟩) l.length cap) := (blk_cell hR.2.1 0).trans rfl
  clear hcell hy
  obtain ⟨y0, ⟨y1, y2, y3, y4⟩, y5, y6, y7, y8⟩ := y
  obtain ⟨⟨l0, q0⟩, ⟨l1, q1⟩, ⟨l2, q2⟩, ⟨l3, q3⟩⟩ := (okV_iff _).1 hok1
  obtain ⟨⟨m0, n0⟩, ⟨m1, n1⟩, ⟨m2, n2⟩, ⟨m3, n3⟩⟩ := (okV_iff _).1 hok2
  simp only at l0 q0 l1 q1 l2 q2 l3 q3 m0 n0 m1 n1 m2 n2 m3 n3
  clear hok1 hok2
  simp only [vv]
  have HR := hid hR
  have hlR := lt_of_at hR.2.1
  have hfi : ∀ W, Below w.heap.size w W → Calls Try.prog 32 #[.pointer (some ⟨R, 0, none⟩), .string s] W fun e w' => e = .returned (.int .i64 (findI l s)) ∧ Below W.heap.size W w' := fun W h => rfind_any B R _ l s W (HR.out.below h) hm
  rw [hk] at hfi
  clear hR
  go_enter Try.func19, Try.ntmps19
  go_wp2_with fail
  refine (hfi _ (by repeat (first | with_reducible assumption | with_reducible exact Below.refl _ _ | with_reducible refine Below.drew ?_ | with_reducible refine below_drewN ?_ _ | with_reducible refine below_alloc ?_ _ | with_reducible refine Below.alloc ?_ (by first | omega | (simp; done) | (simp; omega)) _ | with_reducible refine Below.setCell ?_ (by first | omega | (simp; done) | (simp; omega)) _ | with_reducible refine below_setRow ?_ (by first | omega | (simp; done) | (simp; omega)) _))).mono ?_
  rintro e w1 ⟨rfl, hb1⟩
  have hs1 := hb1.size
  simp only [World.size_alloc] at hs1
  have B1 : Below w.heap.size w w1 := Below.trans (by repeat (first | with_reducible assumption | with_reducible exact Below.refl _ _ | with_reducible refine Below.drew ?_ | with_reducible refine below_drewN ?_ _ | with_reducible refine below_alloc ?_ _ | with_reducible refine Below.alloc ?_ (by first | omega | (simp; done) | (simp; omega)) _ | with_reducible refine Below.setCell ?_ (by first | omega | (simp; done) | (simp; omega)) _ | with_reducible refine below_setRow ?_ (by first | omega | (simp; done) | (simp; omega)) _)) (hb1.mono (by first | omega | (simp; done) | (simp; omega)))
  have z := below_at hb1 (n := w.heap.size) (by first | omega | (simp; done) | (simp; omega)) (by (repeat (first | (with_reducible assumption) | (with_reducible exact alloc_at _ _) | ((with_reducible apply alloc_at'); (simp; done)) | (with_reducible apply alloc_at_lt) | (with_reducible apply heap_drew_at) | (with_reducible apply heap_drewN_at) | (with_reducible apply heap_setCell_same) | ((with_reducible apply heap_set_ne); (first | omega | (dsimp only; omega) | (simp; done) | (simp; omega))) | (with_reducible apply setRow_at) | ((with_reducible apply setRow_ne); (first | omega | (dsimp only; omega) | (simp; done) | (simp; omega))))))
  obtain ⟨z0, z1, z2, z3, zf⟩ := four z
  have hl1 : w.heap.size < w1.heap.size := by omega
  have Z := hid z
  clear z hb1 hfi
  have rc : w1.cell? ⟨R, 0, none⟩ = some (.slice (some ⟨g, 0, none⟩) l.length cap) := (B1.cell (p := ⟨R, 0, none⟩) hlR).trans r0
  have y_1 : w1.cell? ⟨g, k * 9 + 1, none⟩ = some (.int .i64 y1) := (B1.cell (p := ⟨g, k * 9 + 1, none⟩) hgl).trans ((hcy 1 (by omega)).trans rfl)
  have y_2 : w1.cell? ⟨g, k * 9 + 1 + 1, none⟩ = some (.int .i64 y2) := (B1.cell (p := ⟨g, k * 9 + 2, none⟩) hgl).trans ((hcy 2 (by omega)).trans rfl)
  have y_3 : w1.cell? ⟨g, k * 9 + 1 + 2, none⟩ = some (.int .i64 y3) := (B1.cell (p := ⟨g, k * 9 + 3, none⟩) hgl).trans ((hcy 3 (by omega)).trans rfl)
  have y_4 : w1.cell? ⟨g, k * 9 + 1 + 3, none⟩ = some (.int .i64 y4) := (B1.cell (p := ⟨g, k * 9 + 4, none⟩) hgl).trans ((hcy 4 (by omega)).trans rfl)
  have y_5 : w1.cell? ⟨g, k * 9 + 5, none⟩ = some (.int .i64 y5) := (B1.cell (p := ⟨g, k * 9 + 5, none⟩) hgl).trans ((hcy 5 (by omega)).trans rfl)
  have y_6 : w1.cell? ⟨g, k * 9 + 5 + 1, none⟩ = some (.int .i64 y6) := (B1.cell (p := ⟨g, k * 9 + 6, none⟩) hgl).trans ((hcy 6 (by omega)).trans rfl)
  have y_7 : w1.cell? ⟨g, k * 9 + 5 + 2, none⟩ = some (.int .i64 y7) := (B1.cell (p := ⟨g, k * 9 + 7, none⟩) hgl).trans ((hcy 7 (by omega)).trans rfl)
  have y_8 : w1.cell? ⟨g, k * 9 + 5 + 3, none⟩ = some (.int .i64 y8) := (B1.cell (p := ⟨g, k * 9 + 8, none⟩) hgl).trans ((hcy 8 (by omega)).trans rfl)
  have hgl1 : g < w1.heap.size := by omega
  have hlR1 : R < w1.heap.size := by omega
  clear hcy
  go_wp2
  refine wp_loop_rounds 5 ?_
  iterate 4 (rw [rounds_succ]; go_wp2; go_region_held3 (fun w' => w'.cell? ⟨R, 0, none⟩ = some (.slice (some ⟨g, 0, none⟩) l.length cap) ∧ w'.cell? ⟨g, k * 9 + 1, none⟩ = some (.int .i64 y1) ∧ w'.cell? ⟨g, k * 9 + 1 + 1, none⟩ = some (.int .i64 y2) ∧ w'.cell? ⟨g, k * 9 + 1 + 2, none⟩ = some (.int .i64 y3) ∧ w'.cell? ⟨g, k * 9 + 1 + 3, none⟩ = some (.int .i64 y4) ∧ w'.cell? ⟨g, k * 9 + 5, none⟩ = some (.int .i64 y5) ∧ w'.cell? ⟨g, k * 9 + 5 + 1, none⟩ = some (.int .i64 y6) ∧ w'.cell? ⟨g, k * 9 + 5 + 2, none⟩ = some (.int .i64 y7) ∧ w'.cell? ⟨g, k * 9 + 5 + 3, none⟩ = some (.int .i64 y8)) (go_keep) (fail); go_wp2)
  rw [rounds_succ]
  go_wp2
  have z := Z.out
  refine ret_row2 rfl w.heap.size #[.int .i64 (max 0 (y1 - y5)), .int .i64 (max 0 (y2 - y6)), .int .i64 (max 0 (y3 - y7)), .int .i64 (max 0 (y4 - y8))] 29 _ rfl Try.underlying29 rfl infoV rfl (by apply Exists.intro; refine ⟨?_, ?_⟩; (focus ((repeat (first | (with_reducible assumption) | (with_reducible exact alloc_at _ _) | ((with_reducible apply alloc_at'); (simp; done)) | (with_reducible apply alloc_at_lt) | (with_reducible apply heap_drew_at) | (with_reducible apply heap_drewN_at) | (with_reducible apply heap_setCell_same) | ((with_reducible apply heap_set_ne); (first | omega | (dsimp only; omega) | (simp; done) | (simp; omega))) | (with_reducible apply setRow_at) | ((with_reducible apply setRow_ne); (first | omega | (dsimp only; omega) | (simp; done) | (simp; omega))))))); simp) ⟨rfl, (by repeat (first | with_reducible assumption | with_reducible exact Below.refl _ _ | with_reducible refine Below.drew ?_ | with_reducible refine below_drewN ?_ _ | with_reducible refine below_alloc ?_ _ | with_reducible refine Below.alloc ?_ (by first | omega | (simp; done) | (simp; omega)) _ | with_reducible refine Below.setCell ?_ (by first | omega | (simp; done) | (simp; omega)) _ | with_reducible refine below_setRow ?_ (by first | omega | (simp; done) | (simp; omega)) _))⟩
end Go.Proofs.Ytobgolceggeogaa
