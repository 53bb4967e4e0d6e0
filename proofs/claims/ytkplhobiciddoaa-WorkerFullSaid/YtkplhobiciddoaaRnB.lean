/- Contract of the reference's Register of chapter 19, but for a new name. -/
import Derived.Test.YtkplhobiciddoaaRnA
import Derived.Test.YtkplhobiciddoaaRunF
import Derived.Deep.DeepCutAuto
import Derived.IntWalk
namespace Go.Proofs.Ytkplhobiciddoaa
open Go.RowKit Go.Maps
set_option maxRecDepth 20000 in
set_option maxHeartbeats 4000000 in
theorem rreg_name (B R : Nat) (v : Value) (L : List Nd) (s : ByteArray) (ep a b c d now : Int) (w : World) (hB : B ≤ w.heap.size) (hR : RefN B w R v L) (_hm : L.length ≤ 12) (hs : s.size ≤ 281474976710656) (hn : nameB s = false) :
    Calls Try.prog 33 #[.pointer (some ⟨R, 0, none⟩), .string s, .int .i64 ep, .agg #[.int .i64 a, .int .i64 b, .int .i64 c, .int .i64 d], .int .i64 now] w fun e w' => e = .returned (.tuple #[.bool false, .int .i64 4]) ∧ RnPost B w w' R (L) := by
  have hNm : ∀ W, Calls Try.prog 49 #[.string s] W fun e w' => e = .returned (.bool false) ∧ Below W.heap.size W w' := fun W => by
    have h := rname_any s W hs
    rw [hn] at h; exact h
  have HR := hid hR
  have hlR := lt_of_at hR.2.1
  clear hR hs
  go_enter Try.func33, Try.ntmps33
  go_wp2_with fail
  refine (hNm _).mono ?_
  rintro e w1 ⟨rfl, hb1⟩
  have hs1 := hb1.size
  simp only [World.size_alloc] at hs1
  have B1 : Below w.heap.size w w1 := Below.trans (by repeat (first | with_reducible assumption | with_reducible exact Below.refl _ _ | with_reducible refine Below.drew ?_ | with_reducible refine below_drewN ?_ _ | with_reducible refine below_alloc ?_ _ | with_reducible refine Below.alloc ?_ (by first | omega | (simp; done) | (simp; omega)) _ | with_reducible refine Below.setCell ?_ (by first | omega | (simp; done) | (simp; omega)) _ | with_reducible refine below_setRow ?_ (by first | omega | (simp; done) | (simp; omega)) _)) (hb1.mono (by first | omega | (simp; done) | (simp; omega)))
  have z := below_at hb1 (n := w.heap.size) (by first | omega | (simp; done) | (simp; omega)) (by (repeat (first | (with_reducible assumption) | (with_reducible exact alloc_at _ _) | ((with_reducible apply alloc_at'); (simp; done)) | (with_reducible apply alloc_at_lt) | (with_reducible apply heap_drew_at) | (with_reducible apply heap_drewN_at) | (with_reducible apply heap_setCell_same) | ((with_reducible apply heap_set_ne); (first | omega | (dsimp only; omega) | (simp; done) | (simp; omega))) | (with_reducible apply setRow_at) | ((with_reducible apply setRow_ne); (first | omega | (dsimp only; omega) | (simp; done) | (simp; omega))))))
  have hl1 : w.heap.size < w1.heap.size := by omega
  clear hb1
  obtain ⟨z0, z1, z2, z3, zf⟩ := four z
  go_wp2
  all_goals
    go_ret2
    exact ⟨rfl, RnPost.same HR.out hB (by repeat (first | with_reducible assumption | with_reducible exact Below.refl _ _ | with_reducible refine Below.drew ?_ | with_reducible refine below_drewN ?_ _ | with_reducible refine below_alloc ?_ _ | with_reducible refine Below.alloc ?_ (by first | omega | (simp; done) | (simp; omega)) _ | with_reducible refine Below.setCell ?_ (by first | omega | (simp; done) | (simp; omega)) _ | with_reducible refine below_setRow ?_ (by first | omega | (simp; done) | (simp; omega)) _))⟩
set_option maxRecDepth 20000 in
set_option maxHeartbeats 4000000 in
theorem rreg_form (B R : Nat) (v : Value) (L : List Nd) (s : ByteArray) (ep a b c d now : Int) (w : World) (hB : B ≤ w.heap.size) (hR : RefN B w R v L) (_hm : L.length ≤ 12) (hs : s.size ≤ 281474976710656) (hn : nameB s = true) (hv : okV (a, b, c, d) = false) :
    Calls Try.prog 33 #[.pointer (some ⟨R, 0, none⟩), .string s, .int .i64 ep, .agg #[.int .i64 a, .int .i64 b, .int .i64 c, .int .i64 d], .int .i64 now] w fun e w' => e = .returned (.tuple #[.bool false, .int .i64 4]) ∧ RnPost B w w' R (L) := by
  have hNm : ∀ W, Calls Try.prog 49 #[.string s] W fun e w' => e = .returned (.bool true) ∧ Below W.heap.size W w' := fun W => by
    have h := rname_any s W hs
    rw [hn] at h; exact h
  have hFm : ∀ W, Calls Try.prog 50 #[.agg #[.int .i64 a, .int .i64 b, .int .i64 c, .int .i64 d]] W fun e w' => e = .returned (.bool false) ∧ Below W.heap.size W w' := fun W => by
    have h := rformed_any a b c d W
    rw [show formedB a b c d = false from hv] at h; exact h
  have HR := hid hR
  have hlR := lt_of_at hR.2.1
  clear hR hs
  go_enter Try.func33, Try.ntmps33
  go_wp2_with fail
  refine (hNm _).mono ?_
  rintro e w1 ⟨rfl, hb1⟩
  have hs1 := hb1.size
  simp only [World.size_alloc] at hs1
  have B1 : Below w.heap.size w w1 := Below.trans (by repeat (first | with_reducible assumption | with_reducible exact Below.refl _ _ | with_reducible refine Below.drew ?_ | with_reducible refine below_drewN ?_ _ | with_reducible refine below_alloc ?_ _ | with_reducible refine Below.alloc ?_ (by first | omega | (simp; done) | (simp; omega)) _ | with_reducible refine Below.setCell ?_ (by first | omega | (simp; done) | (simp; omega)) _ | with_reducible refine below_setRow ?_ (by first | omega | (simp; done) | (simp; omega)) _)) (hb1.mono (by first | omega | (simp; done) | (simp; omega)))
  have z := below_at hb1 (n := w.heap.size) (by first | omega | (simp; done) | (simp; omega)) (by (repeat (first | (with_reducible assumption) | (with_reducible exact alloc_at _ _) | ((with_reducible apply alloc_at'); (simp; done)) | (with_reducible apply alloc_at_lt) | (with_reducible apply heap_drew_at) | (with_reducible apply heap_drewN_at) | (with_reducible apply heap_setCell_same) | ((with_reducible apply heap_set_ne); (first | omega | (dsimp only; omega) | (simp; done) | (simp; omega))) | (with_reducible apply setRow_at) | ((with_reducible apply setRow_ne); (first | omega | (dsimp only; omega) | (simp; done) | (simp; omega))))))
  have hl1 : w.heap.size < w1.heap.size := by omega
  clear hb1
  obtain ⟨z0, z1, z2, z3, zf⟩ := four z
  go_wp2_with fail
  refine (hFm _).mono ?_
  rintro e w2 ⟨rfl, hb2⟩
  have hs2 := hb2.size
  have B2 : Below w.heap.size w w2 := B1.trans (hb2.mono (by omega))
  have y := below_at hb2 hl1 z
  have hl2 : w.heap.size < w2.heap.size := by omega
  clear hb2 z z0 z1 z2 z3 zf
  obtain ⟨z0, z1, z2, z3, zf⟩ := four y
  go_wp2
  all_goals
    go_ret2
    exact ⟨rfl, RnPost.same HR.out hB (by repeat (first | with_reducible assumption | with_reducible exact Below.refl _ _ | with_reducible refine Below.drew ?_ | with_reducible refine below_drewN ?_ _ | with_reducible refine below_alloc ?_ _ | with_reducible refine Below.alloc ?_ (by first | omega | (simp; done) | (simp; omega)) _ | with_reducible refine Below.setCell ?_ (by first | omega | (simp; done) | (simp; omega)) _ | with_reducible refine below_setRow ?_ (by first | omega | (simp; done) | (simp; omega)) _))⟩
set_option maxRecDepth 20000 in
set_option maxHeartbeats 4000000 in
theorem rreg_range (B R : Nat) (v : Value) (L : List Nd) (s : ByteArray) (ep a b c d now : Int) (w : World) (hB : B ≤ w.heap.size) (hR : RefN B w R v L) (_hm : L.length ≤ 12) (hs : s.size ≤ 281474976710656) (hn : nameB s = true) (hv : okV (a, b, c, d) = true) (h2 : ep < 1 ∨ 2147483648 ≤ ep ∨ now < 0 ∨ 1099511627776 < now) :
    Calls Try.prog 33 #[.pointer (some ⟨R, 0, none⟩), .string s, .int .i64 ep, .agg #[.int .i64 a, .int .i64 b, .int .i64 c, .int .i64 d], .int .i64 now] w fun e w' => e = .returned (.tuple #[.bool false, .int .i64 2]) ∧ RnPost B w w' R (L) := by
  have H2 := hid h2
  clear h2
  have hNm : ∀ W, Calls Try.prog 49 #[.string s] W fun e w' => e = .returned (.bool true) ∧ Below W.heap.size W w' := fun W => by
    have h := rname_any s W hs
    rw [hn] at h; exact h
  have hFm : ∀ W, Calls Try.prog 50 #[.agg #[.int .i64 a, .int .i64 b, .int .i64 c, .int .i64 d]] W fun e w' => e = .returned (.bool true) ∧ Below W.heap.size W w' := fun W => by
    have h := rformed_any a b c d W
    rw [show formedB a b c d = true from hv] at h; exact h
  have HR := hid hR
  have hlR := lt_of_at hR.2.1
  clear hR hs
  go_enter Try.func33, Try.ntmps33
  go_wp2_with fail
  refine (hNm _).mono ?_
  rintro e w1 ⟨rfl, hb1⟩
  have hs1 := hb1.size
  simp only [World.size_alloc] at hs1
  have B1 : Below w.heap.size w w1 := Below.trans (by repeat (first | with_reducible assumption | with_reducible exact Below.refl _ _ | with_reducible refine Below.drew ?_ | with_reducible refine below_drewN ?_ _ | with_reducible refine below_alloc ?_ _ | with_reducible refine Below.alloc ?_ (by first | omega | (simp; done) | (simp; omega)) _ | with_reducible refine Below.setCell ?_ (by first | omega | (simp; done) | (simp; omega)) _ | with_reducible refine below_setRow ?_ (by first | omega | (simp; done) | (simp; omega)) _)) (hb1.mono (by first | omega | (simp; done) | (simp; omega)))
  have z := below_at hb1 (n := w.heap.size) (by first | omega | (simp; done) | (simp; omega)) (by (repeat (first | (with_reducible assumption) | (with_reducible exact alloc_at _ _) | ((with_reducible apply alloc_at'); (simp; done)) | (with_reducible apply alloc_at_lt) | (with_reducible apply heap_drew_at) | (with_reducible apply heap_drewN_at) | (with_reducible apply heap_setCell_same) | ((with_reducible apply heap_set_ne); (first | omega | (dsimp only; omega) | (simp; done) | (simp; omega))) | (with_reducible apply setRow_at) | ((with_reducible apply setRow_ne); (first | omega | (dsimp only; omega) | (simp; done) | (simp; omega))))))
  have hl1 : w.heap.size < w1.heap.size := by omega
  clear hb1
  obtain ⟨z0, z1, z2, z3, zf⟩ := four z
  go_wp2_with fail
  refine (hFm _).mono ?_
  rintro e w2 ⟨rfl, hb2⟩
  have hs2 := hb2.size
  have B2 : Below w.heap.size w w2 := B1.trans (hb2.mono (by omega))
  have y := below_at hb2 hl1 z
  have hl2 : w.heap.size < w2.heap.size := by omega
  clear hb2 z z0 z1 z2 z3 zf
  obtain ⟨z0, z1, z2, z3, zf⟩ := four y
  go_upto_region 3 with fail
  by_cases g1 : ep < 1
  · go_wp2
    all_goals
      go_ret2
      exact ⟨rfl, RnPost.same HR.out hB (by repeat (first | with_reducible assumption | with_reducible exact Below.refl _ _ | with_reducible refine Below.drew ?_ | with_reducible refine below_drewN ?_ _ | with_reducible refine below_alloc ?_ _ | with_reducible refine Below.alloc ?_ (by first | omega | (simp; done) | (simp; omega)) _ | with_reducible refine Below.setCell ?_ (by first | omega | (simp; done) | (simp; omega)) _ | with_reducible refine below_setRow ?_ (by first | omega | (simp; done) | (simp; omega)) _))⟩
  · by_cases g2 : 2147483648 ≤ ep
    · go_wp2
      all_goals
        go_ret2
        exact ⟨rfl, RnPost.same HR.out hB (by repeat (first | with_reducible assumption | with_reducible exact Below.refl _ _ | with_reducible refine Below.drew ?_ | with_reducible refine below_drewN ?_ _ | with_reducible refine below_alloc ?_ _ | with_reducible refine Below.alloc ?_ (by first | omega | (simp; done) | (simp; omega)) _ | with_reducible refine Below.setCell ?_ (by first | omega | (simp; done) | (simp; omega)) _ | with_reducible refine below_setRow ?_ (by first | omega | (simp; done) | (simp; omega)) _))⟩
    · by_cases g3 : now < 0
      · go_wp2
        all_goals
          go_ret2
          exact ⟨rfl, RnPost.same HR.out hB (by repeat (first | with_reducible assumption | with_reducible exact Below.refl _ _ | with_reducible refine Below.drew ?_ | with_reducible refine below_drewN ?_ _ | with_reducible refine below_alloc ?_ _ | with_reducible refine Below.alloc ?_ (by first | omega | (simp; done) | (simp; omega)) _ | with_reducible refine Below.setCell ?_ (by first | omega | (simp; done) | (simp; omega)) _ | with_reducible refine below_setRow ?_ (by first | omega | (simp; done) | (simp; omega)) _))⟩
      · have g4 : 1099511627776 < now := by
          rcases H2.out with h | h | h | h
          · exact absurd h g1
          · exact absurd h g2
          · exact absurd h g3
          · exact h
        go_wp2
        all_goals
          go_ret2
          exact ⟨rfl, RnPost.same HR.out hB (by repeat (first | with_reducible assumption | with_reducible exact Below.refl _ _ | with_reducible refine Below.drew ?_ | with_reducible refine below_drewN ?_ _ | with_reducible refine below_alloc ?_ _ | with_reducible refine Below.alloc ?_ (by first | omega | (simp; done) | (simp; omega)) _ | with_reducible refine Below.setCell ?_ (by first | omega | (simp; done) | (simp; omega)) _ | with_reducible refine below_setRow ?_ (by first | omega | (simp; done) | (simp; omega)) _))⟩
set_option maxRecDepth 20000 in
set_option maxHeartbeats 4000000 in
theorem rreg_stale (B R : Nat) (v : Value) (L : List Nd) (s : ByteArray) (ep a b c d now : Int) (w : World) (hB : B ≤ w.heap.size) (hR : RefN B w R v L) (hm : L.length ≤ 12) (hs : s.size ≤ 281474976710656) (hn : nameB s = true) (hv : okV (a, b, c, d) = true) (g1 : ¬ ep < 1) (g2 : ¬ 2147483648 ≤ ep) (g3 : ¬ now < 0) (g4 : ¬ 1099511627776 < now) (k : Nat) (hk : fndI L s = k) (hkl : k < L.length) (hle : ep ≤ L[k].epoch) :
    Calls Try.prog 33 #[.pointer (some ⟨R, 0, none⟩), .string s, .int .i64 ep, .agg #[.int .i64 a, .int .i64 b, .int .i64 c, .int .i64 d], .int .i64 now] w fun e w' => e = .returned (.tuple #[.bool false, .int .i64 14]) ∧ RnPost B w w' R (L) := by
  have hNm : ∀ W, Calls Try.prog 49 #[.string s] W fun e w' => e = .returned (.bool true) ∧ Below W.heap.size W w' := fun W => by
    have h := rname_any s W hs
    rw [hn] at h; exact h
  have hFm : ∀ W, Calls Try.prog 50 #[.agg #[.int .i64 a, .int .i64 b, .int .i64 c, .int .i64 d]] W fun e w' => e = .returned (.bool true) ∧ Below W.heap.size W w' := fun W => by
    have h := rformed_any a b c d W
    rw [show formedB a b c d = true from hv] at h; exact h
  have HR := hid hR
  have hlR := lt_of_at hR.2.1
  clear hR hs
  go_enter Try.func33, Try.ntmps33
  go_wp2_with fail
  refine (hNm _).mono ?_
  rintro e w1 ⟨rfl, hb1⟩
  have hs1 := hb1.size
  simp only [World.size_alloc] at hs1
  have B1 : Below w.heap.size w w1 := Below.trans (by repeat (first | with_reducible assumption | with_reducible exact Below.refl _ _ | with_reducible refine Below.drew ?_ | with_reducible refine below_drewN ?_ _ | with_reducible refine below_alloc ?_ _ | with_reducible refine Below.alloc ?_ (by first | omega | (simp; done) | (simp; omega)) _ | with_reducible refine Below.setCell ?_ (by first | omega | (simp; done) | (simp; omega)) _ | with_reducible refine below_setRow ?_ (by first | omega | (simp; done) | (simp; omega)) _)) (hb1.mono (by first | omega | (simp; done) | (simp; omega)))
  have z := below_at hb1 (n := w.heap.size) (by first | omega | (simp; done) | (simp; omega)) (by (repeat (first | (with_reducible assumption) | (with_reducible exact alloc_at _ _) | ((with_reducible apply alloc_at'); (simp; done)) | (with_reducible apply alloc_at_lt) | (with_reducible apply heap_drew_at) | (with_reducible apply heap_drewN_at) | (with_reducible apply heap_setCell_same) | ((with_reducible apply heap_set_ne); (first | omega | (dsimp only; omega) | (simp; done) | (simp; omega))) | (with_reducible apply setRow_at) | ((with_reducible apply setRow_ne); (first | omega | (dsimp only; omega) | (simp; done) | (simp; omega))))))
  have hl1 : w.heap.size < w1.heap.size := by omega
  clear hb1
  obtain ⟨z0, z1, z2, z3, zf⟩ := four z
  go_wp2_with fail
  refine (hFm _).mono ?_
  rintro e w2 ⟨rfl, hb2⟩
  have hs2 := hb2.size
  have B2 : Below w.heap.size w w2 := B1.trans (hb2.mono (by omega))
  have y := below_at hb2 hl1 z
  have hl2 : w.heap.size < w2.heap.size := by omega
  clear hb2 z z0 z1 z2 z3 zf
  obtain ⟨z0, z1, z2, z3, zf⟩ := four y
  go_wp2_with fail
  refine (rfind_any B R v L s w2 (HR.out.below B2) (by omega)).mono ?_
  rintro e w3 ⟨rfl, hb3⟩
  have B3 : Below w.heap.size w w3 := B2.trans (hb3.mono B2.size)
  have hs3 := B3.size
  have x3 := below_at hb3 hl2 y
  have hl3 := lt_of_at x3
  have R3 := HR.out.below B3
  clear hb3 y z0 z1 z2 z3 zf
  obtain ⟨z0, z1, z2, z3, zf⟩ := four x3
  rw [hk]
  have r0 : w3.cell? ⟨R, 0, none⟩ = some v := (blk_cell R3.2.1 0).trans rfl
  have rf := blk_free R3.2.1
  have hlR3 := lt_of_at R3.2.1
  obtain ⟨g, cap, rfl, hg, hgR, hgl, hgf, hcell⟩ := R3.row (by omega)
  obtain ⟨x, hx⟩ : ∃ x, x = L[k] := ⟨_, rfl⟩
  have hcx : ∀ c, c < 8 → w3.cell? ⟨g, k * 8 + c, none⟩ = (cellsN x)[c]? := fun c hc => by rw [hx]; exact hcell k hkl c hc
  rw [← hx] at hle
  have HX := hid hx
  have HCX := hid hcx
  have kl : (k : Int) < (L.length : Int) := by omega
  clear hcell hx
  obtain ⟨x0, x1, ⟨x2, x3', x4, x5⟩, x6, x7⟩ := x
  have q0 : w3.cell? ⟨g, k * 8, none⟩ = some (.string x0) := (hcx 0 (by omega)).trans rfl
  have q1 : w3.cell? ⟨g, k * 8 + 1, none⟩ = some (.int .i64 x1) := (hcx 1 (by omega)).trans rfl
  have q2 : w3.cell? ⟨g, k * 8 + 2, none⟩ = some (.int .i64 x2) := (hcx 2 (by omega)).trans rfl
  have q3 : w3.cell? ⟨g, k * 8 + 3, none⟩ = some (.int .i64 x3') := (hcx 3 (by omega)).trans rfl
  have q4 : w3.cell? ⟨g, k * 8 + 4, none⟩ = some (.int .i64 x4) := (hcx 4 (by omega)).trans rfl
  have q5 : w3.cell? ⟨g, k * 8 + 5, none⟩ = some (.int .i64 x5) := (hcx 5 (by omega)).trans rfl
  have q6 : w3.cell? ⟨g, k * 8 + 6, none⟩ = some (.int .i64 x6) := (hcx 6 (by omega)).trans rfl
  have q7 : w3.cell? ⟨g, k * 8 + 7, none⟩ = some (.bool x7) := (hcx 7 (by omega)).trans rfl
  clear hcx
  simp only at hle
  clear R3
  go_wp2
  all_goals
    go_ret2
    exact ⟨rfl, RnPost.same HR.out hB (by repeat (first | with_reducible assumption | with_reducible exact Below.refl _ _ | with_reducible refine Below.drew ?_ | with_reducible refine below_drewN ?_ _ | with_reducible refine below_alloc ?_ _ | with_reducible refine Below.alloc ?_ (by first | omega | (simp; done) | (simp; omega)) _ | with_reducible refine Below.setCell ?_ (by first | omega | (simp; done) | (simp; omega)) _ | with_reducible refine below_setRow ?_ (by first | omega | (simp; done) | (simp; omega)) _))⟩
set_option maxRecDepth 20000 in
set_option maxHeartbeats 4000000 in
theorem rreg_full (B R : Nat) (v : Value) (L : List Nd) (s : ByteArray) (ep a b c d now : Int) (w : World) (hB : B ≤ w.heap.size) (hR : RefN B w R v L) (hm : L.length ≤ 12) (hs : s.size ≤ 281474976710656) (hn : nameB s = true) (hv : okV (a, b, c, d) = true) (g1 : ¬ ep < 1) (g2 : ¬ 2147483648 ≤ ep) (g3 : ¬ now < 0) (g4 : ¬ 1099511627776 < now) (hk : fndI L s = -1) (hfull : 12 ≤ L.length) :
    Calls Try.prog 33 #[.pointer (some ⟨R, 0, none⟩), .string s, .int .i64 ep, .agg #[.int .i64 a, .int .i64 b, .int .i64 c, .int .i64 d], .int .i64 now] w fun e w' => e = .returned (.tuple #[.bool false, .int .i64 6]) ∧ RnPost B w w' R (L) := by
  have hNm : ∀ W, Calls Try.prog 49 #[.string s] W fun e w' => e = .returned (.bool true) ∧ Below W.heap.size W w' := fun W => by
    have h := rname_any s W hs
    rw [hn] at h; exact h
  have hFm : ∀ W, Calls Try.prog 50 #[.agg #[.int .i64 a, .int .i64 b, .int .i64 c, .int .i64 d]] W fun e w' => e = .returned (.bool true) ∧ Below W.heap.size W w' := fun W => by
    have h := rformed_any a b c d W
    rw [show formedB a b c d = true from hv] at h; exact h
  have HR := hid hR
  have hlR := lt_of_at hR.2.1
  clear hR hs
  go_enter Try.func33, Try.ntmps33
  go_wp2_with fail
  refine (hNm _).mono ?_
  rintro e w1 ⟨rfl, hb1⟩
  have hs1 := hb1.size
  simp only [World.size_alloc] at hs1
  have B1 : Below w.heap.size w w1 := Below.trans (by repeat (first | with_reducible assumption | with_reducible exact Below.refl _ _ | with_reducible refine Below.drew ?_ | with_reducible refine below_drewN ?_ _ | with_reducible refine below_alloc ?_ _ | with_reducible refine Below.alloc ?_ (by first | omega | (simp; done) | (simp; omega)) _ | with_reducible refine Below.setCell ?_ (by first | omega | (simp; done) | (simp; omega)) _ | with_reducible refine below_setRow ?_ (by first | omega | (simp; done) | (simp; omega)) _)) (hb1.mono (by first | omega | (simp; done) | (simp; omega)))
  have z := below_at hb1 (n := w.heap.size) (by first | omega | (simp; done) | (simp; omega)) (by (repeat (first | (with_reducible assumption) | (with_reducible exact alloc_at _ _) | ((with_reducible apply alloc_at'); (simp; done)) | (with_reducible apply alloc_at_lt) | (with_reducible apply heap_drew_at) | (with_reducible apply heap_drewN_at) | (with_reducible apply heap_setCell_same) | ((with_reducible apply heap_set_ne); (first | omega | (dsimp only; omega) | (simp; done) | (simp; omega))) | (with_reducible apply setRow_at) | ((with_reducible apply setRow_ne); (first | omega | (dsimp only; omega) | (simp; done) | (simp; omega))))))
  have hl1 : w.heap.size < w1.heap.size := by omega
  clear hb1
  obtain ⟨z0, z1, z2, z3, zf⟩ := four z
  go_wp2_with fail
  refine (hFm _).mono ?_
  rintro e w2 ⟨rfl, hb2⟩
  have hs2 := hb2.size
  have B2 : Below w.heap.size w w2 := B1.trans (hb2.mono (by omega))
  have y := below_at hb2 hl1 z
  have hl2 : w.heap.size < w2.heap.size := by omega
  clear hb2 z z0 z1 z2 z3 zf
  obtain ⟨z0, z1, z2, z3, zf⟩ := four y
  go_wp2_with fail
  refine (rfind_any B R v L s w2 (HR.out.below B2) (by omega)).mono ?_
  rintro e w3 ⟨rfl, hb3⟩
  have B3 : Below w.heap.size w w3 := B2.trans (hb3.mono B2.size)
  have hs3 := B3.size
  have x3 := below_at hb3 hl2 y
  have hl3 := lt_of_at x3
  have R3 := HR.out.below B3
  clear hb3 y z0 z1 z2 z3 zf
  obtain ⟨z0, z1, z2, z3, zf⟩ := four x3
  rw [hk]
  have r0 : w3.cell? ⟨R, 0, none⟩ = some v := (blk_cell R3.2.1 0).trans rfl
  have rf := blk_free R3.2.1
  have hlR3 := lt_of_at R3.2.1
  obtain ⟨A, cap, rfl⟩ := rn_slice R3
  have hff : (12 : Int) ≤ (L.length : Int) := by omega
  clear R3 hfull
  go_wp2
  all_goals
    go_ret2
    exact ⟨rfl, RnPost.same HR.out hB (by repeat (first | with_reducible assumption | with_reducible exact Below.refl _ _ | with_reducible refine Below.drew ?_ | with_reducible refine below_drewN ?_ _ | with_reducible refine below_alloc ?_ _ | with_reducible refine Below.alloc ?_ (by first | omega | (simp; done) | (simp; omega)) _ | with_reducible refine Below.setCell ?_ (by first | omega | (simp; done) | (simp; omega)) _ | with_reducible refine below_setRow ?_ (by first | omega | (simp; done) | (simp; omega)) _))⟩
/-- A whole node is stored into its place. -/
theorem rn_eight {B R g n cap j : Nat} {w : World} {l : List Nd} (h : RefN B w R (.slice (some ⟨g, 0, none⟩) n cap) l) (hn : n = l.length) (hgR : g ≠ R) (hj : j < l.length) (x : Nd) :
    ∀ w', w' = ((((((((w.setCell ⟨g, j * 8 + 0, none⟩ (.string x.name)).setCell ⟨g, j * 8 + 1, none⟩ (.int .i64 x.epoch)).setCell ⟨g, j * 8 + 2, none⟩ (.int .i64 x.cap.1)).setCell ⟨g, j * 8 + 3, none⟩ (.int .i64 x.cap.2.1)).setCell ⟨g, j * 8 + 4, none⟩ (.int .i64 x.cap.2.2.1)).setCell ⟨g, j * 8 + 5, none⟩ (.int .i64 x.cap.2.2.2)).setCell ⟨g, j * 8 + 6, none⟩ (.int .i64 x.seen)).setCell ⟨g, j * 8 + 7, none⟩ (.bool x.live)) → RefN B w' R (.slice (some ⟨g, 0, none⟩) n cap) (l.set j x) ∧ KeptR w w' ∧ Below B w w' := by
  rintro w' rfl
  subst hn
  obtain ⟨r0, k0, b0⟩ := rn_set h hgR hj (c := 0) (by omega) ⟨x.name, l[j].epoch, l[j].cap, l[j].seen, l[j].live⟩ (.string x.name) (by rfl)
  obtain ⟨r1, k1, b1⟩ := rn_set r0 hgR (by simp only [List.length_set]; exact hj) (c := 1) (by omega) ⟨x.name, x.epoch, l[j].cap, l[j].seen, l[j].live⟩ (.int .i64 x.epoch) (by rw [List.getElem_set_self]; rfl)
  obtain ⟨r2, k2, b2⟩ := rn_set r1 hgR (by simp only [List.length_set]; exact hj) (c := 2) (by omega) ⟨x.name, x.epoch, (x.cap.1, l[j].cap.2), l[j].seen, l[j].live⟩ (.int .i64 x.cap.1) (by rw [List.getElem_set_self]; rfl)
  obtain ⟨r3, k3, b3⟩ := rn_set r2 hgR (by simp only [List.length_set]; exact hj) (c := 3) (by omega) ⟨x.name, x.epoch, (x.cap.1, x.cap.2.1, l[j].cap.2.2), l[j].seen, l[j].live⟩ (.int .i64 x.cap.2.1) (by rw [List.getElem_set_self]; rfl)
  obtain ⟨r4, k4, b4⟩ := rn_set r3 hgR (by simp only [List.length_set]; exact hj) (c := 4) (by omega) ⟨x.name, x.epoch, (x.cap.1, x.cap.2.1, x.cap.2.2.1, l[j].cap.2.2.2), l[j].seen, l[j].live⟩ (.int .i64 x.cap.2.2.1) (by rw [List.getElem_set_self]; rfl)
  obtain ⟨r5, k5, b5⟩ := rn_set r4 hgR (by simp only [List.length_set]; exact hj) (c := 5) (by omega) ⟨x.name, x.epoch, x.cap, l[j].seen, l[j].live⟩ (.int .i64 x.cap.2.2.2) (by rw [List.getElem_set_self]; rfl)
  obtain ⟨r6, k6, b6⟩ := rn_set r5 hgR (by simp only [List.length_set]; exact hj) (c := 6) (by omega) ⟨x.name, x.epoch, x.cap, x.seen, l[j].live⟩ (.int .i64 x.seen) (by rw [List.getElem_set_self]; rfl)
  obtain ⟨r7, k7, b7⟩ := rn_set r6 hgR (by simp only [List.length_set]; exact hj) (c := 7) (by omega) x (.bool x.live) (by rw [List.getElem_set_self]; rfl)
  simp only [List.set_set, List.length_set] at r7
  exact ⟨r7, (((((((k0.trans k1).trans k2).trans k3).trans k4).trans k5).trans k6).trans k7), (((((((b0.trans b1).trans b2).trans b3).trans b4).trans b5).trans b6).trans b7)⟩
set_option maxRecDepth 20000 in
set_option maxHeartbeats 4000000 in
theorem rreg_old (B R : Nat) (v : Value) (L : List Nd) (s : ByteArray) (ep a b c d now : Int) (w : World) (hB : B ≤ w.heap.size) (hR : RefN B w R v L) (hm : L.length ≤ 12) (hs : s.size ≤ 281474976710656) (hn : nameB s = true) (hv : okV (a, b, c, d) = true) (g1 : ¬ ep < 1) (g2 : ¬ 2147483648 ≤ ep) (g3 : ¬ now < 0) (g4 : ¬ 1099511627776 < now) (k : Nat) (hk : fndI L s = k) (hkl : k < L.length) (hle : ¬ ep ≤ L[k].epoch) :
    Calls Try.prog 33 #[.pointer (some ⟨R, 0, none⟩), .string s, .int .i64 ep, .agg #[.int .i64 a, .int .i64 b, .int .i64 c, .int .i64 d], .int .i64 now] w fun e w' => e = .returned (.tuple #[.bool L[k].live, .int .i64 0]) ∧ RnPost B w w' R (L.set k ⟨s, ep, (a, b, c, d), now, true⟩) := by
  have hNm : ∀ W, Calls Try.prog 49 #[.string s] W fun e w' => e = .returned (.bool true) ∧ Below W.heap.size W w' := fun W => by
    have h := rname_any s W hs
    rw [hn] at h; exact h
  have hFm : ∀ W, Calls Try.prog 50 #[.agg #[.int .i64 a, .int .i64 b, .int .i64 c, .int .i64 d]] W fun e w' => e = .returned (.bool true) ∧ Below W.heap.size W w' := fun W => by
    have h := rformed_any a b c d W
    rw [show formedB a b c d = true from hv] at h; exact h
  have HR := hid hR
  have hlR := lt_of_at hR.2.1
  clear hR hs
  go_enter Try.func33, Try.ntmps33
  go_wp2_with fail
  refine (hNm _).mono ?_
  rintro e w1 ⟨rfl, hb1⟩
  have hs1 := hb1.size
  simp only [World.size_alloc] at hs1
  have B1 : Below w.heap.size w w1 := Below.trans (by repeat (first | with_reducible assumption | with_reducible exact Below.refl _ _ | with_reducible refine Below.drew ?_ | with_reducible refine below_drewN ?_ _ | with_reducible refine below_alloc ?_ _ | with_reducible refine Below.alloc ?_ (by first | omega | (simp; done) | (simp; omega)) _ | with_reducible refine Below.setCell ?_ (by first | omega | (simp; done) | (simp; omega)) _ | with_reducible refine below_setRow ?_ (by first | omega | (simp; done) | (simp; omega)) _)) (hb1.mono (by first | omega | (simp; done) | (simp; omega)))
  have z := below_at hb1 (n := w.heap.size) (by first | omega | (simp; done) | (simp; omega)) (by (repeat (first | (with_reducible assumption) | (with_reducible exact alloc_at _ _) | ((with_reducible apply alloc_at'); (simp; done)) | (with_reducible apply alloc_at_lt) | (with_reducible apply heap_drew_at) | (with_reducible apply heap_drewN_at) | (with_reducible apply heap_setCell_same) | ((with_reducible apply heap_set_ne); (first | omega | (dsimp only; omega) | (simp; done) | (simp; omega))) | (with_reducible apply setRow_at) | ((with_reducible apply setRow_ne); (first | omega | (dsimp only; omega) | (simp; done) | (simp; omega))))))
  have hl1 : w.heap.size < w1.heap.size := by omega
  clear hb1
  obtain ⟨z0, z1, z2, z3, zf⟩ := four z
  go_wp2_with fail
  refine (hFm _).mono ?_
  rintro e w2 ⟨rfl, hb2⟩
  have hs2 := hb2.size
  have B2 : Below w.heap.size w w2 := B1.trans (hb2.mono (by omega))
  have y := below_at hb2 hl1 z
  have hl2 : w.heap.size < w2.heap.size := by omega
  clear hb2 z z0 z1 z2 z3 zf
  obtain ⟨z0, z1, z2, z3, zf⟩ := four y
  go_wp2_with fail
  refine (rfind_any B R v L s w2 (HR.out.below B2) (by omega)).mono ?_
  rintro e w3 ⟨rfl, hb3⟩
  have B3 : Below w.heap.size w w3 := B2.trans (hb3.mono B2.size)
  have hs3 := B3.size
  have x3 := below_at hb3 hl2 y
  have hl3 := lt_of_at x3
  have R3 := HR.out.below B3
  clear hb3 y z0 z1 z2 z3 zf
  obtain ⟨z0, z1, z2, z3, zf⟩ := four x3
  rw [hk]
  have r0 : w3.cell? ⟨R, 0, none⟩ = some v := (blk_cell R3.2.1 0).trans rfl
  have rf := blk_free R3.2.1
  have hlR3 := lt_of_at R3.2.1
  obtain ⟨g, cap, rfl, hg, hgR, hgl, hgf, hcell⟩ := R3.row (by omega)
  obtain ⟨x, hx⟩ : ∃ x, x = L[k] := ⟨_, rfl⟩
  have hcx : ∀ c, c < 8 → w3.cell? ⟨g, k * 8 + c, none⟩ = (cellsN x)[c]? := fun c hc => by rw [hx]; exact hcell k hkl c hc
  rw [← hx] at hle
  have HX := hid hx
  have HCX := hid hcx
  have kl : (k : Int) < (L.length : Int) := by omega
  clear hcell hx
  obtain ⟨x0, x1, ⟨x2, x3', x4, x5⟩, x6, x7⟩ := x
  have q0 : w3.cell? ⟨g, k * 8, none⟩ = some (.string x0) := (hcx 0 (by omega)).trans rfl
  have q1 : w3.cell? ⟨g, k * 8 + 1, none⟩ = some (.int .i64 x1) := (hcx 1 (by omega)).trans rfl
  have q2 : w3.cell? ⟨g, k * 8 + 2, none⟩ = some (.int .i64 x2) := (hcx 2 (by omega)).trans rfl
  have q3 : w3.cell? ⟨g, k * 8 + 3, none⟩ = some (.int .i64 x3') := (hcx 3 (by omega)).trans rfl
  have q4 : w3.cell? ⟨g, k * 8 + 4, none⟩ = some (.int .i64 x4) := (hcx 4 (by omega)).trans rfl
  have q5 : w3.cell? ⟨g, k * 8 + 5, none⟩ = some (.int .i64 x5) := (hcx 5 (by omega)).trans rfl
  have q6 : w3.cell? ⟨g, k * 8 + 6, none⟩ = some (.int .i64 x6) := (hcx 6 (by omega)).trans rfl
  have q7 : w3.cell? ⟨g, k * 8 + 7, none⟩ = some (.bool x7) := (hcx 7 (by omega)).trans rfl
  clear hcx
  simp only at hle
  have HR3 := hid R3
  have HX3 := hid x3
  have hgw : g ≠ w.heap.size := fun e => by
    obtain ⟨-, -, -, ⟨h3, -⟩ | ⟨g', cap', cur, h3, -, hh, -⟩⟩ := R3
    · cases h3
    · cases h3
      rw [e, x3] at hh
      injection hh with hh
      injection hh with _ h5
      exact absurd h5 (by decide)
  clear R3 x3
  go_upto_region 13 with fail
  refine wp_name ?_
  intro w4 hw4
  have A4 : w4.heap[w3.heap.size]? = some (.cells #[.string s, .int .i64 ep, .int .i64 a, .int .i64 b, .int .i64 c, .int .i64 d, .int .i64 now, .bool true] 34 (0, 0)) := by rw [hw4]; exact (by (repeat (first | (with_reducible assumption) | (with_reducible exact alloc_at _ _) | ((with_reducible apply alloc_at'); (simp; done)) | (with_reducible apply alloc_at_lt) | (with_reducible apply heap_drew_at) | (with_reducible apply heap_drewN_at) | (with_reducible apply heap_setCell_same) | ((with_reducible apply heap_set_ne); (first | omega | (dsimp only; omega) | (simp; done) | (simp; omega))) | (with_reducible apply setRow_at) | ((with_reducible apply setRow_ne); (first | omega | (dsimp only; omega) | (simp; done) | (simp; omega))))))
  have B4 : Below w3.heap.size w3 w4 := by rw [hw4]; exact (by repeat (first | with_reducible assumption | with_reducible exact Below.refl _ _ | with_reducible refine Below.drew ?_ | with_reducible refine below_drewN ?_ _ | with_reducible refine below_alloc ?_ _ | with_reducible refine Below.alloc ?_ (by first | omega | (simp; done) | (simp; omega)) _ | with_reducible refine Below.setCell ?_ (by first | omega | (simp; done) | (simp; omega)) _ | with_reducible refine below_setRow ?_ (by first | omega | (simp; done) | (simp; omega)) _))
  have R4 := HR3.out.below B4
  have p0 : w4.cell? ⟨R, 0, none⟩ = some (.slice (some ⟨g, 0, none⟩) L.length cap) := (blk_cell R4.2.1 0).trans rfl
  have pf := blk_free R4.2.1
  have hlR4 := lt_of_at R4.2.1
  have hs4 := B4.size
  have hgl4 : g < w4.heap.size := by omega
  have hgf4 : ∀ i, w4.frozen? ⟨g, i, none⟩ = false := by obtain ⟨g', cap', e', -, -, -, hf, -⟩ := R4.row (by omega); cases e'; exact hf
  have hgA : g ≠ w3.heap.size := by omega
  have hl4 := lt_of_at A4
  have a0 : w4.cell? ⟨w3.heap.size, 0, none⟩ = some (.string s) := (blk_cell A4 0).trans rfl
  have a1 : w4.cell? ⟨w3.heap.size, 1, none⟩ = some (.int .i64 ep) := (blk_cell A4 1).trans rfl
  have a2 : w4.cell? ⟨w3.heap.size, 2, none⟩ = some (.int .i64 a) := (blk_cell A4 2).trans rfl
  have a3 : w4.cell? ⟨w3.heap.size, 3, none⟩ = some (.int .i64 b) := (blk_cell A4 3).trans rfl
  have a4 : w4.cell? ⟨w3.heap.size, 4, none⟩ = some (.int .i64 c) := (blk_cell A4 4).trans rfl
  have a5 : w4.cell? ⟨w3.heap.size, 5, none⟩ = some (.int .i64 d) := (blk_cell A4 5).trans rfl
  have a6 : w4.cell? ⟨w3.heap.size, 6, none⟩ = some (.int .i64 now) := (blk_cell A4 6).trans rfl
  have a7 : w4.cell? ⟨w3.heap.size, 7, none⟩ = some (.bool true) := (blk_cell A4 7).trans rfl
  have u0 : w4.cell? ⟨g, k * 8, none⟩ = some (.string x0) := (B4.cell (p := ⟨g, k * 8, none⟩) hgl).trans q0
  have u1 : w4.cell? ⟨g, k * 8 + 1, none⟩ = some (.int .i64 x1) := (B4.cell (p := ⟨g, k * 8 + 1, none⟩) hgl).trans q1
  have u2 : w4.cell? ⟨g, k * 8 + 2, none⟩ = some (.int .i64 x2) := (B4.cell (p := ⟨g, k * 8 + 2, none⟩) hgl).trans q2
  have u3 : w4.cell? ⟨g, k * 8 + 3, none⟩ = some (.int .i64 x3') := (B4.cell (p := ⟨g, k * 8 + 3, none⟩) hgl).trans q3
  have u4 : w4.cell? ⟨g, k * 8 + 4, none⟩ = some (.int .i64 x4) := (B4.cell (p := ⟨g, k * 8 + 4, none⟩) hgl).trans q4
  have u5 : w4.cell? ⟨g, k * 8 + 5, none⟩ = some (.int .i64 x5) := (B4.cell (p := ⟨g, k * 8 + 5, none⟩) hgl).trans q5
  have u6 : w4.cell? ⟨g, k * 8 + 6, none⟩ = some (.int .i64 x6) := (B4.cell (p := ⟨g, k * 8 + 6, none⟩) hgl).trans q6
  have u7 : w4.cell? ⟨g, k * 8 + 7, none⟩ = some (.bool x7) := (B4.cell (p := ⟨g, k * 8 + 7, none⟩) hgl).trans q7
  have HR4 := hid R4
  have HB4 : Hid (Below B w w4) := (Below.mono B3 hB).trans (B4.mono (by omega))
  have HK4 : Hid (KeptR w w4) := (keptR_below B3).trans (keptR_below B4)
  clear q0 q1 q2 q3 q4 q5 q6 q7 R4 A4 B4 hw4 r0 rf z0 z1 z2 z3 zf B1 B2 B3 HR3 HX3 HCX
  go_wp2
  go_region_held3 (fun w' => w'.cell? ⟨R, 0, none⟩ = some (.slice (some ⟨g, 0, none⟩) L.length cap) ∧ w'.cell? ⟨w3.heap.size, 0, none⟩ = some (.string s) ∧ w'.cell? ⟨w3.heap.size, 1, none⟩ = some (.int .i64 ep) ∧ w'.cell? ⟨w3.heap.size, 2, none⟩ = some (.int .i64 a) ∧ w'.cell? ⟨w3.heap.size, 3, none⟩ = some (.int .i64 b) ∧ w'.cell? ⟨w3.heap.size, 4, none⟩ = some (.int .i64 c) ∧ w'.cell? ⟨w3.heap.size, 5, none⟩ = some (.int .i64 d) ∧ w'.cell? ⟨w3.heap.size, 6, none⟩ = some (.int .i64 now) ∧ w'.cell? ⟨w3.heap.size, 7, none⟩ = some (.bool true)) (go_keep) (fail)
  all_goals
    go_wp2
    go_ret2
    obtain ⟨r, kt, bl⟩ := rn_eight HR4.out rfl hgR hkl ⟨s, ep, (a, b, c, d), now, true⟩ _ rfl
    exact ⟨by rw [show L[k].live = x7 by rw [← HX.out]]; rfl, ⟨_, r.below ((Below.refl _ _).drew)⟩, (HB4.out.trans bl).drew, HK4.out.trans (kt.trans (keptR_below ((Below.refl _ _).drew)))⟩
end Go.Proofs.Ytkplhobiciddoaa
