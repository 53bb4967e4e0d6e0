/- Contract of chapter 19's Register: the node is there, live, and its lease is set; or the call is refused and nothing has changed. -/
import Derived.Test.YtkplhobiciddoaaWk0
import Derived.Deep.DeepCutAuto
import Derived.Deep.CutBlock
import Derived.WalkSpells
import Derived.IntWalk
namespace Go.Proofs.Ytkplhobiciddoaa
open Go.RowKit Go.Maps Go.WideShapes
set_option maxRecDepth 20000 in
set_option maxHeartbeats 1000000 in
theorem reg_name (B T : Nat) (nm : Option Nat) (v : Value) (m : Option Nat) (L : List Nd) (s : ByteArray) (ep a b c d now : Int) (w : World) (h : TabS B w T nm v m L) (hs : s.size ≤ maxLen) (hn : nameB s = false) :
    Calls Try.prog 11 #[.pointer (some ⟨T, 0, none⟩), .string s, .int .i64 ep, .agg #[.int .i64 a, .int .i64 b, .int .i64 c, .int .i64 d], .int .i64 now] w fun e w' => e = .returned (.tuple #[.bool false, .int .i64 4]) ∧ Below w.heap.size w w' := by
  have hlt := h.lt
  have hNm : ∀ W, Calls Try.prog 22 #[.string s] W fun e w' => e = .returned (.bool false) ∧ Below W.heap.size W w' := fun W => by
    have h := name_any s W hs
    rw [hn] at h; exact h
  clear h
  go_enter Try.func11, Try.ntmps11
  go_wp2_with fail
  refine (hNm _).mono ?_
  rintro e w1 ⟨rfl, hb1⟩
  have hs1 := hb1.size
  simp only [World.size_alloc] at hs1
  have B1 : Below w.heap.size w w1 := Below.trans (by repeat (first | with_reducible assumption | with_reducible exact Below.refl _ _ | with_reducible refine Below.drew ?_ | with_reducible refine below_drewN ?_ _ | with_reducible refine below_alloc ?_ _ | with_reducible refine Below.alloc ?_ (by first | omega | (simp; done) | (simp; omega)) _ | with_reducible refine Below.setCell ?_ (by first | omega | (simp; done) | (simp; omega)) _ | with_reducible refine below_setRow ?_ (by first | omega | (simp; done) | (simp; omega)) _)) (hb1.mono (by first | omega | (simp; done) | (simp; omega)))
  have z := below_at hb1 (n := w.heap.size) (by first | omega | (simp; done) | (simp; omega)) (by (repeat (first | (with_reducible assumption) | (with_reducible exact alloc_at _ _) | ((with_reducible apply alloc_at'); (simp; done)) | (with_reducible apply alloc_at_lt) | (with_reducible apply heap_drew_at) | (with_reducible apply heap_drewN_at) | (with_reducible apply heap_setCell_same) | ((with_reducible apply heap_set_ne); (first | omega | (dsimp only; omega) | (simp; done) | (simp; omega))) | (with_reducible apply setRow_at) | ((with_reducible apply setRow_ne); (first | omega | (dsimp only; omega) | (simp; done) | (simp; omega))))))
  have hl1 : w.heap.size < w1.heap.size := by omega
  clear hb1
  obtain ⟨z0, z1, z2, z3, zf⟩ := four z
  go_wp2
  all_goals
    go_ret2
    exact ⟨rfl, (by repeat (first | with_reducible assumption | with_reducible exact Below.refl _ _ | with_reducible refine Below.drew ?_ | with_reducible refine below_drewN ?_ _ | with_reducible refine below_alloc ?_ _ | with_reducible refine Below.alloc ?_ (by first | omega | (simp; done) | (simp; omega)) _ | with_reducible refine Below.setCell ?_ (by first | omega | (simp; done) | (simp; omega)) _ | with_reducible refine below_setRow ?_ (by first | omega | (simp; done) | (simp; omega)) _))⟩
set_option maxRecDepth 20000 in
set_option maxHeartbeats 1000000 in
theorem reg_form (B T : Nat) (nm : Option Nat) (v : Value) (m : Option Nat) (L : List Nd) (s : ByteArray) (ep a b c d now : Int) (w : World) (h : TabS B w T nm v m L) (hs : s.size ≤ maxLen) (hn : nameB s = true) (hv : okV (a, b, c, d) = false) :
    Calls Try.prog 11 #[.pointer (some ⟨T, 0, none⟩), .string s, .int .i64 ep, .agg #[.int .i64 a, .int .i64 b, .int .i64 c, .int .i64 d], .int .i64 now] w fun e w' => e = .returned (.tuple #[.bool false, .int .i64 4]) ∧ Below w.heap.size w w' := by
  have hlt := h.lt
  have hNm : ∀ W, Calls Try.prog 22 #[.string s] W fun e w' => e = .returned (.bool true) ∧ Below W.heap.size W w' := fun W => by
    have h := name_any s W hs
    rw [hn] at h; exact h
  have hFm : ∀ W, Calls Try.prog 23 #[.agg #[.int .i64 a, .int .i64 b, .int .i64 c, .int .i64 d]] W fun e w' => e = .returned (.bool false) ∧ Below W.heap.size W w' := fun W => by
    have h := formed_any a b c d W
    have hv2 : formedB a b c d = false := hv
    rw [hv2] at h; exact h
  clear h
  go_enter Try.func11, Try.ntmps11
  go_wp2_with fail
  refine (hNm _).mono ?_
  rintro e w1 ⟨rfl, hb1⟩
  have hs1 := hb1.size
  simp only [World.size_alloc] at hs1
  have B1 : Below w.heap.size w w1 := Below.trans (by repeat (first | with_reducible assumption | with_reducible exact Below.refl _ _ | with_reducible refine Below.drew ?_ | with_reducible refine below_drewN ?_ _ | with_reducible refine below_alloc ?_ _ | with_reducible refine Below.alloc ?_ (by first | omega | (simp; done) | (simp; omega)) _ | with_reducible refine Below.setCell ?_ (by first | omega | (simp; done) | (simp; omega)) _ | with_reducible refine below_setRow ?_ (by first | omega | (simp; done) | (simp; omega)) _)) (hb1.mono (by first | omega | (simp; done) | (simp; omega)))
  have z := below_at hb1 (n := w.heap.size) (by first | omega | (simp; done) | (simp; omega)) (by (repeat (first | (with_reducible assumption) | (with_reducible exact alloc_at _ _) | ((with_reducible apply alloc_at'); (simp; done)) | (with_reducible apply alloc_at_lt) | (with_reducible apply heap_drew_at) | (with_reducible apply heap_drewN_at) | (with_reducible apply heap_setCell_same) | ((with_reducible apply heap_set_ne); (first | omega | (dsimp only; omega) | (simp; done) | (simp; omega))) | (with_reducible apply setRow_at) | ((with_reducible apply setRow_ne); (first | omega | (dsimp only; omega) | (simp; done) | (simp; omega))))))
  have hl1 : w.heap.size < w1.heap.size := by omega
  clear hb1
  obtain ⟨z0, z1, z2, z3, zf⟩ := four z
  go_wp2_with fail
  refine (hFm _).mono ?_
  rintro e w2 ⟨rfl, hb2⟩
  have hs2 := hb2.size
  have B2 : Below w.heap.size w w2 := B1.trans (hb2.mono (by omega))
  have y := below_at hb2 hl1 z
  have hl2 : w.heap.size < w2.heap.size := by omega
  clear hb2 z z0 z1 z2 z3 zf
  obtain ⟨z0, z1, z2, z3, zf⟩ := four y
  go_wp2
  all_goals
    go_ret2
    exact ⟨rfl, (by repeat (first | with_reducible assumption | with_reducible exact Below.refl _ _ | with_reducible refine Below.drew ?_ | with_reducible refine below_drewN ?_ _ | with_reducible refine below_alloc ?_ _ | with_reducible refine Below.alloc ?_ (by first | omega | (simp; done) | (simp; omega)) _ | with_reducible refine Below.setCell ?_ (by first | omega | (simp; done) | (simp; omega)) _ | with_reducible refine below_setRow ?_ (by first | omega | (simp; done) | (simp; omega)) _))⟩
set_option maxRecDepth 20000 in
set_option maxHeartbeats 1000000 in
theorem reg_range (B T : Nat) (nm : Option Nat) (v : Value) (m : Option Nat) (L : List Nd) (s : ByteArray) (ep a b c d now : Int) (w : World) (h : TabS B w T nm v m L) (hs : s.size ≤ maxLen) (hn : nameB s = true) (hv : okV (a, b, c, d) = true) (h2 : ep < 1 ∨ 2147483648 ≤ ep ∨ now < 0 ∨ 1099511627776 < now) :
    Calls Try.prog 11 #[.pointer (some ⟨T, 0, none⟩), .string s, .int .i64 ep, .agg #[.int .i64 a, .int .i64 b, .int .i64 c, .int .i64 d], .int .i64 now] w fun e w' => e = .returned (.tuple #[.bool false, .int .i64 2]) ∧ Below w.heap.size w w' := by
  have hlt := h.lt
  have hNm : ∀ W, Calls Try.prog 22 #[.string s] W fun e w' => e = .returned (.bool true) ∧ Below W.heap.size W w' := fun W => by
    have h := name_any s W hs
    rw [hn] at h; exact h
  have hFm : ∀ W, Calls Try.prog 23 #[.agg #[.int .i64 a, .int .i64 b, .int .i64 c, .int .i64 d]] W fun e w' => e = .returned (.bool true) ∧ Below W.heap.size W w' := fun W => by
    have h := formed_any a b c d W
    have hv2 : formedB a b c d = true := hv
    rw [hv2] at h; exact h
  have HR := hid h2
  clear h h2
  go_enter Try.func11, Try.ntmps11
  go_wp2_with fail
  refine (hNm _).mono ?_
  rintro e w1 ⟨rfl, hb1⟩
  have hs1 := hb1.size
  simp only [World.size_alloc] at hs1
  have B1 : Below w.heap.size w w1 := Below.trans (by repeat (first | with_reducible assumption | with_reducible exact Below.refl _ _ | with_reducible refine Below.drew ?_ | with_reducible refine below_drewN ?_ _ | with_reducible refine below_alloc ?_ _ | with_reducible refine Below.alloc ?_ (by first | omega | (simp; done) | (simp; omega)) _ | with_reducible refine Below.setCell ?_ (by first | omega | (simp; done) | (simp; omega)) _ | with_reducible refine below_setRow ?_ (by first | omega | (simp; done) | (simp; omega)) _)) (hb1.mono (by first | omega | (simp; done) | (simp; omega)))
  have z := below_at hb1 (n := w.heap.size) (by first | omega | (simp; done) | (simp; omega)) (by (repeat (first | (with_reducible assumption) | (with_reducible exact alloc_at _ _) | ((with_reducible apply alloc_at'); (simp; done)) | (with_reducible apply alloc_at_lt) | (with_reducible apply heap_drew_at) | (with_reducible apply heap_drewN_at) | (with_reducible apply heap_setCell_same) | ((with_reducible apply heap_set_ne); (first | omega | (dsimp only; omega) | (simp; done) | (simp; omega))) | (with_reducible apply setRow_at) | ((with_reducible apply setRow_ne); (first | omega | (dsimp only; omega) | (simp; done) | (simp; omega))))))
  have hl1 : w.heap.size < w1.heap.size := by omega
  clear hb1
  obtain ⟨z0, z1, z2, z3, zf⟩ := four z
  go_wp2_with fail
  refine (hFm _).mono ?_
  rintro e w2 ⟨rfl, hb2⟩
  have hs2 := hb2.size
  have B2 : Below w.heap.size w w2 := B1.trans (hb2.mono (by omega))
  have y := below_at hb2 hl1 z
  have hl2 : w.heap.size < w2.heap.size := by omega
  clear hb2 z z0 z1 z2 z3 zf
  obtain ⟨z0, z1, z2, z3, zf⟩ := four y
  go_upto_region 5 with fail
  by_cases g1 : ep < 1
  · go_wp2
    all_goals
      go_ret2
      exact ⟨rfl, (by repeat (first | with_reducible assumption | with_reducible exact Below.refl _ _ | with_reducible refine Below.drew ?_ | with_reducible refine below_drewN ?_ _ | with_reducible refine below_alloc ?_ _ | with_reducible refine Below.alloc ?_ (by first | omega | (simp; done) | (simp; omega)) _ | with_reducible refine Below.setCell ?_ (by first | omega | (simp; done) | (simp; omega)) _ | with_reducible refine below_setRow ?_ (by first | omega | (simp; done) | (simp; omega)) _))⟩
  · by_cases g2 : 2147483648 ≤ ep
    · go_wp2
      all_goals
        go_ret2
        exact ⟨rfl, (by repeat (first | with_reducible assumption | with_reducible exact Below.refl _ _ | with_reducible refine Below.drew ?_ | with_reducible refine below_drewN ?_ _ | with_reducible refine below_alloc ?_ _ | with_reducible refine Below.alloc ?_ (by first | omega | (simp; done) | (simp; omega)) _ | with_reducible refine Below.setCell ?_ (by first | omega | (simp; done) | (simp; omega)) _ | with_reducible refine below_setRow ?_ (by first | omega | (simp; done) | (simp; omega)) _))⟩
    · by_cases g3 : now < 0
      · go_wp2
        all_goals
          go_ret2
          exact ⟨rfl, (by repeat (first | with_reducible assumption | with_reducible exact Below.refl _ _ | with_reducible refine Below.drew ?_ | with_reducible refine below_drewN ?_ _ | with_reducible refine below_alloc ?_ _ | with_reducible refine Below.alloc ?_ (by first | omega | (simp; done) | (simp; omega)) _ | with_reducible refine Below.setCell ?_ (by first | omega | (simp; done) | (simp; omega)) _ | with_reducible refine below_setRow ?_ (by first | omega | (simp; done) | (simp; omega)) _))⟩
      · have g4 : 1099511627776 < now := by
          rcases HR.out with h | h | h | h
          · exact absurd h g1
          · exact absurd h g2
          · exact absurd h g3
          · exact h
        go_wp2
        all_goals
          go_ret2
          exact ⟨rfl, (by repeat (first | with_reducible assumption | with_reducible exact Below.refl _ _ | with_reducible refine Below.drew ?_ | with_reducible refine below_drewN ?_ _ | with_reducible refine below_alloc ?_ _ | with_reducible refine Below.alloc ?_ (by first | omega | (simp; done) | (simp; omega)) _ | with_reducible refine Below.setCell ?_ (by first | omega | (simp; done) | (simp; omega)) _ | with_reducible refine below_setRow ?_ (by first | omega | (simp; done) | (simp; omega)) _))⟩
set_option maxRecDepth 20000 in
set_option maxHeartbeats 1000000 in
theorem reg_stale (B T : Nat) (nm : Option Nat) (v : Value) (m : Option Nat) (L : List Nd) (s : ByteArray) (ep a b c d now : Int) (w : World) (h : TabS B w T nm v m L) (hs : s.size ≤ maxLen) (hn : nameB s = true) (hv : okV (a, b, c, d) = true) (g1 : ¬ ep < 1) (g2 : ¬ 2147483648 ≤ ep) (g3 : ¬ now < 0) (g4 : ¬ 1099511627776 < now) (x : Nd) (hA : fnd L (ky s) = some x) (hle : ep ≤ x.epoch) :
    Calls Try.prog 11 #[.pointer (some ⟨T, 0, none⟩), .string s, .int .i64 ep, .agg #[.int .i64 a, .int .i64 b, .int .i64 c, .int .i64 d], .int .i64 now] w fun e w' => e = .returned (.tuple #[.bool false, .int .i64 14]) ∧ Below w.heap.size w w' := by
  have hlt := h.lt
  have hNm : ∀ W, Calls Try.prog 22 #[.string s] W fun e w' => e = .returned (.bool true) ∧ Below W.heap.size W w' := fun W => by
    have h := name_any s W hs
    rw [hn] at h; exact h
  have hFm : ∀ W, Calls Try.prog 23 #[.agg #[.int .i64 a, .int .i64 b, .int .i64 c, .int .i64 d]] W fun e w' => e = .returned (.bool true) ∧ Below W.heap.size W w' := fun W => by
    have h := formed_any a b c d W
    have hv2 : formedB a b c d = true := hv
    rw [hv2] at h; exact h
  go_enter Try.func11, Try.ntmps11
  go_wp2_with fail
  refine (hNm _).mono ?_
  rintro e w1 ⟨rfl, hb1⟩
  have hs1 := hb1.size
  simp only [World.size_alloc] at hs1
  have B1 : Below w.heap.size w w1 := Below.trans (by repeat (first | with_reducible assumption | with_reducible exact Below.refl _ _ | with_reducible refine Below.drew ?_ | with_reducible refine below_drewN ?_ _ | with_reducible refine below_alloc ?_ _ | with_reducible refine Below.alloc ?_ (by first | omega | (simp; done) | (simp; omega)) _ | with_reducible refine Below.setCell ?_ (by first | omega | (simp; done) | (simp; omega)) _ | with_reducible refine below_setRow ?_ (by first | omega | (simp; done) | (simp; omega)) _)) (hb1.mono (by first | omega | (simp; done) | (simp; omega)))
  have z := below_at hb1 (n := w.heap.size) (by first | omega | (simp; done) | (simp; omega)) (by (repeat (first | (with_reducible assumption) | (with_reducible exact alloc_at _ _) | ((with_reducible apply alloc_at'); (simp; done)) | (with_reducible apply alloc_at_lt) | (with_reducible apply heap_drew_at) | (with_reducible apply heap_drewN_at) | (with_reducible apply heap_setCell_same) | ((with_reducible apply heap_set_ne); (first | omega | (dsimp only; omega) | (simp; done) | (simp; omega))) | (with_reducible apply setRow_at) | ((with_reducible apply setRow_ne); (first | omega | (dsimp only; omega) | (simp; done) | (simp; omega))))))
  have hl1 : w.heap.size < w1.heap.size := by omega
  clear hb1
  obtain ⟨z0, z1, z2, z3, zf⟩ := four z
  go_wp2_with fail
  refine (hFm _).mono ?_
  rintro e w2 ⟨rfl, hb2⟩
  have hs2 := hb2.size
  have B2 : Below w.heap.size w w2 := B1.trans (hb2.mono (by omega))
  have y := below_at hb2 hl1 z
  have hl2 : w.heap.size < w2.heap.size := by omega
  clear hb2 z z0 z1 z2 z3 zf
  obtain ⟨z0, z1, z2, z3, zf⟩ := four y
  have T2 := h.below B2
  obtain ⟨lc, lf⟩ := T2.tcell
  have hlt2 := T2.lt
  have hlook := T2.map.look_ok hs
  rw [hA] at hlook
  obtain ⟨nx, ex, ⟨cx0, cx1, cx2, cx3⟩, sx, lx⟩ := x
  simp only [Option.getD_some, Option.isSome_some, ndV, cellsN] at hlook hle
  clear h T2 hs
  go_wp2
  all_goals
    go_ret2
    exact ⟨rfl, (by repeat (first | with_reducible assumption | with_reducible exact Below.refl _ _ | with_reducible refine Below.drew ?_ | with_reducible refine below_drewN ?_ _ | with_reducible refine below_alloc ?_ _ | with_reducible refine Below.alloc ?_ (by first | omega | (simp; done) | (simp; omega)) _ | with_reducible refine Below.setCell ?_ (by first | omega | (simp; done) | (simp; omega)) _ | with_reducible refine below_setRow ?_ (by first | omega | (simp; done) | (simp; omega)) _))⟩
set_option maxRecDepth 20000 in
set_option maxHeartbeats 1000000 in
theorem reg_full (B T : Nat) (nm : Option Nat) (v : Value) (m : Option Nat) (L : List Nd) (s : ByteArray) (ep a b c d now : Int) (w : World) (h : TabS B w T nm v m L) (hs : s.size ≤ maxLen) (hn : nameB s = true) (hv : okV (a, b, c, d) = true) (g1 : ¬ ep < 1) (g2 : ¬ 2147483648 ≤ ep) (g3 : ¬ now < 0) (g4 : ¬ 1099511627776 < now) (hA : fnd L (ky s) = none) (hfull : 12 ≤ L.length) :
    Calls Try.prog 11 #[.pointer (some ⟨T, 0, none⟩), .string s, .int .i64 ep, .agg #[.int .i64 a, .int .i64 b, .int .i64 c, .int .i64 d], .int .i64 now] w fun e w' => e = .returned (.tuple #[.bool false, .int .i64 6]) ∧ Below w.heap.size w w' := by
  have hlt := h.lt
  have hNm : ∀ W, Calls Try.prog 22 #[.string s] W fun e w' => e = .returned (.bool true) ∧ Below W.heap.size W w' := fun W => by
    have h := name_any s W hs
    rw [hn] at h; exact h
  have hFm : ∀ W, Calls Try.prog 23 #[.agg #[.int .i64 a, .int .i64 b, .int .i64 c, .int .i64 d]] W fun e w' => e = .returned (.bool true) ∧ Below W.heap.size W w' := fun W => by
    have h := formed_any a b c d W
    have hv2 : formedB a b c d = true := hv
    rw [hv2] at h; exact h
  go_enter Try.func11, Try.ntmps11
  go_wp2_with fail
  refine (hNm _).mono ?_
  rintro e w1 ⟨rfl, hb1⟩
  have hs1 := hb1.size
  simp only [World.size_alloc] at hs1
  have B1 : Below w.heap.size w w1 := Below.trans (by repeat (first | with_reducible assumption | with_reducible exact Below.refl _ _ | with_reducible refine Below.drew ?_ | with_reducible refine below_drewN ?_ _ | with_reducible refine below_alloc ?_ _ | with_reducible refine Below.alloc ?_ (by first | omega | (simp; done) | (simp; omega)) _ | with_reducible refine Below.setCell ?_ (by first | omega | (simp; done) | (simp; omega)) _ | with_reducible refine below_setRow ?_ (by first | omega | (simp; done) | (simp; omega)) _)) (hb1.mono (by first | omega | (simp; done) | (simp; omega)))
  have z := below_at hb1 (n := w.heap.size) (by first | omega | (simp; done) | (simp; omega)) (by (repeat (first | (with_reducible assumption) | (with_reducible exact alloc_at _ _) | ((with_reducible apply alloc_at'); (simp; done)) | (with_reducible apply alloc_at_lt) | (with_reducible apply heap_drew_at) | (with_reducible apply heap_drewN_at) | (with_reducible apply heap_setCell_same) | ((with_reducible apply heap_set_ne); (first | omega | (dsimp only; omega) | (simp; done) | (simp; omega))) | (with_reducible apply setRow_at) | ((with_reducible apply setRow_ne); (first | omega | (dsimp only; omega) | (simp; done) | (simp; omega))))))
  have hl1 : w.heap.size < w1.heap.size := by omega
  clear hb1
  obtain ⟨z0, z1, z2, z3, zf⟩ := four z
  go_wp2_with fail
  refine (hFm _).mono ?_
  rintro e w2 ⟨rfl, hb2⟩
  have hs2 := hb2.size
  have B2 : Below w.heap.size w w2 := B1.trans (hb2.mono (by omega))
  have y := below_at hb2 hl1 z
  have hl2 : w.heap.size < w2.heap.size := by omega
  clear hb2 z z0 z1 z2 z3 zf
  obtain ⟨z0, z1, z2, z3, zf⟩ := four y
  have T2 := h.below B2
  obtain ⟨lc, lf⟩ := T2.tcell
  have hlt2 := T2.lt
  have hlook := T2.map.look_ok hs
  rw [hA] at hlook
  simp only [Option.getD_none, Option.isSome_none, ndV, cellsN, zeroN, zeroV] at hlook
  have hlen : ∀ o ty, (Builtin.len_ #[57] ty #[.map nm]).run Try.prog (w2.alloc o) = .ok (.int .i64 L.length) (w2.alloc o) := fun o ty => (T2.map.at (fun b' e => by subst e; exact Below.heap_alloc _ _ _ T2.map.lt)).len ty
  have hff : (12 : Int) ≤ (L.length : Int) := by omega
  clear h T2 hs hfull
  go_wp2
  all_goals
    go_ret2
    exact ⟨rfl, (by repeat (first | with_reducible assumption | with_reducible exact Below.refl _ _ | with_reducible refine Below.drew ?_ | with_reducible refine below_drewN ?_ _ | with_reducible refine below_alloc ?_ _ | with_reducible refine Below.alloc ?_ (by first | omega | (simp; done) | (simp; omega)) _ | with_reducible refine Below.setCell ?_ (by first | omega | (simp; done) | (simp; omega)) _ | with_reducible refine below_setRow ?_ (by first | omega | (simp; done) | (simp; omega)) _))⟩
set_option maxRecDepth 20000 in
set_option maxHeartbeats 1000000 in
theorem reg_old (B T : Nat) (nm : Option Nat) (v : Value) (m : Option Nat) (L : List Nd) (s : ByteArray) (ep a b c d now : Int) (w : World) (h : TabS B w T nm v m L) (hs : s.size ≤ maxLen) (hn : nameB s = true) (hv : okV (a, b, c, d) = true) (g1 : ¬ ep < 1) (g2 : ¬ 2147483648 ≤ ep) (g3 : ¬ now < 0) (g4 : ¬ 1099511627776 < now) (x : Nd) (hA : fnd L (ky s) = some x) (hle : ¬ ep ≤ x.epoch) :
    Calls Try.prog 11 #[.pointer (some ⟨T, 0, none⟩), .string s, .int .i64 ep, .agg #[.int .i64 a, .int .i64 b, .int .i64 c, .int .i64 d], .int .i64 now] w fun e w' => e = .returned (.tuple #[.bool x.live, .int .i64 0]) ∧ TabB B w' T (putN L ⟨s, ep, (a, b, c, d), now, true⟩) ∧ Below B w w' ∧ KeptX w w' := by
  have hlt := h.lt
  have hNm : ∀ W, Calls Try.prog 22 #[.string s] W fun e w' => e = .returned (.bool true) ∧ Below W.heap.size W w' := fun W => by
    have h := name_any s W hs
    rw [hn] at h; exact h
  have hFm : ∀ W, Calls Try.prog 23 #[.agg #[.int .i64 a, .int .i64 b, .int .i64 c, .int .i64 d]] W fun e w' => e = .returned (.bool true) ∧ Below W.heap.size W w' := fun W => by
    have h := formed_any a b c d W
    have hv2 : formedB a b c d = true := hv
    rw [hv2] at h; exact h
  have qT : ∀ (w : World) (r : Option Nat), (binOp .eql 57 (.map r) (.map none)).run Try.prog w = .ok (.bool r.isNone) w := fun w r => run_eql_map_nil w _ _ _ r Try.underlying57
  go_enter Try.func11, Try.ntmps11
  go_wp2_with fail
  refine (hNm _).mono ?_
  rintro e w1 ⟨rfl, hb1⟩
  have hs1 := hb1.size
  simp only [World.size_alloc] at hs1
  have B1 : Below w.heap.size w w1 := Below.trans (by repeat (first | with_reducible assumption | with_reducible exact Below.refl _ _ | with_reducible refine Below.drew ?_ | with_reducible refine below_drewN ?_ _ | with_reducible refine below_alloc ?_ _ | with_reducible refine Below.alloc ?_ (by first | omega | (simp; done) | (simp; omega)) _ | with_reducible refine Below.setCell ?_ (by first | omega | (simp; done) | (simp; omega)) _ | with_reducible refine below_setRow ?_ (by first | omega | (simp; done) | (simp; omega)) _)) (hb1.mono (by first | omega | (simp; done) | (simp; omega)))
  have z := below_at hb1 (n := w.heap.size) (by first | omega | (simp; done) | (simp; omega)) (by (repeat (first | (with_reducible assumption) | (with_reducible exact alloc_at _ _) | ((with_reducible apply alloc_at'); (simp; done)) | (with_reducible apply alloc_at_lt) | (with_reducible apply heap_drew_at) | (with_reducible apply heap_drewN_at) | (with_reducible apply heap_setCell_same) | ((with_reducible apply heap_set_ne); (first | omega | (dsimp only; omega) | (simp; done) | (simp; omega))) | (with_reducible apply setRow_at) | ((with_reducible apply setRow_ne); (first | omega | (dsimp only; omega) | (simp; done) | (simp; omega))))))
  have hl1 : w.heap.size < w1.heap.size := by omega
  clear hb1
  obtain ⟨z0, z1, z2, z3, zf⟩ := four z
  go_wp2_with fail
  refine (hFm _).mono ?_
  rintro e w2 ⟨rfl, hb2⟩
  have hs2 := hb2.size
  have B2 : Below w.heap.size w w2 := B1.trans (hb2.mono (by omega))
  have y := below_at hb2 hl1 z
  have hl2 : w.heap.size < w2.heap.size := by omega
  clear hb2 z z0 z1 z2 z3 zf
  obtain ⟨z0, z1, z2, z3, zf⟩ := four y
  have T2 := h.below B2
  obtain ⟨lc, lf⟩ := T2.tcell
  have hlt2 := T2.lt
  have hlook := T2.map.look_ok hs
  rw [hA] at hlook
  obtain ⟨nx, ex, ⟨cx0, cx1, cx2, cx3⟩, sx, lx⟩ := x
  simp only [Option.getD_some, Option.isSome_some, ndV, cellsN] at hlook hle
  obtain ⟨b', rfl⟩ : ∃ b', nm = some b' := by
    cases nm with
    | none => exact absurd hA (by rw [show L = [] from h.map]; simp [fnd])
    | some b' => exact ⟨b', rfl⟩
  have HLEN : Hid ((putN L ⟨s, ep, (a, b, c, d), now, true⟩).length ≤ 12) := by
    unfold Hid
    rw [put_length h.ris, hA]
    exact h.len
  have HBL : Hid (B ≤ w.heap.size) := Nat.le_trans h.le (Nat.le_of_lt hlt)
  have HT2 := hid T2
  have HS := hid hs
  clear h T2 hs
  go_upto_region 8 with fail
  clear hlook
  go_upto_region 14 with fail
  have hs := HS.out
  refine wp_name ?_
  intro w3 hw3
  have N3 : w3.heap[w2.heap.size]? = some (.cells #[.string nx, .int .i64 ex, .int .i64 cx0, .int .i64 cx1, .int .i64 cx2, .int .i64 cx3, .int .i64 sx, .bool lx] 34 (0, 0)) := by rw [hw3]; exact at_of (by apply Exists.intro; refine ⟨?_, ?_⟩; (focus ((repeat (first | (with_reducible assumption) | (with_reducible exact alloc_at _ _) | ((with_reducible apply alloc_at'); (simp; done)) | (with_reducible apply alloc_at_lt) | (with_reducible apply heap_drew_at) | (with_reducible apply heap_drewN_at) | (with_reducible apply heap_setCell_same) | ((with_reducible apply heap_set_ne); (first | omega | (dsimp only; omega) | (simp; done) | (simp; omega))) | (with_reducible apply setRow_at) | ((with_reducible apply setRow_ne); (first | omega | (dsimp only; omega) | (simp; done) | (simp; omega))))))); simp)
  have V3 : w3.heap[w.heap.size]? = some (.cells #[.int .i64 a, .int .i64 b, .int .i64 c, .int .i64 d] 25 (0, 0)) := by rw [hw3]; exact at_of (by apply Exists.intro; refine ⟨?_, ?_⟩; (focus ((repeat (first | (with_reducible assumption) | (with_reducible exact alloc_at _ _) | ((with_reducible apply alloc_at'); (simp; done)) | (with_reducible apply alloc_at_lt) | (with_reducible apply heap_drew_at) | (with_reducible apply heap_drewN_at) | (with_reducible apply heap_setCell_same) | ((with_reducible apply heap_set_ne); (first | omega | (dsimp only; omega) | (simp; done) | (simp; omega))) | (with_reducible apply setRow_at) | ((with_reducible apply setRow_ne); (first | omega | (dsimp only; omega) | (simp; done) | (simp; omega))))))); simp)
  have BW3 : Below w2.heap.size w2 w3 := by rw [hw3]; exact (by repeat (first | with_reducible assumption | with_reducible exact Below.refl _ _ | with_reducible refine Below.drew ?_ | with_reducible refine below_drewN ?_ _ | with_reducible refine below_alloc ?_ _ | with_reducible refine Below.alloc ?_ (by first | omega | (simp; done) | (simp; omega)) _ | with_reducible refine Below.setCell ?_ (by first | omega | (simp; done) | (simp; omega)) _ | with_reducible refine below_setRow ?_ (by first | omega | (simp; done) | (simp; omega)) _))
  have HN3 := lt_of_at N3
  have Z3 := lt_of_at V3
  have T3 : TabS B w3 T (some b') v m L := HT2.out.below BW3
  have HBB : Hid (Below B w w3) := (B2.mono HBL.out).trans (BW3.mono (Nat.le_trans HBL.out B2.size))
  have HSZ : Hid (w.heap.size ≤ w3.heap.size) := Nat.le_trans B2.size BW3.size
  have HKK : Hid (KeptX w w3) := (KeptX.of_below B2).trans (KeptX.of_below BW3)
  clear hw3
  obtain ⟨l3c, l3f⟩ := T3.tcell
  have L3 := T3.lt
  have e0 : ∀ lx_ : Lat w3.heap.size w3, lx_.w.cell? ⟨T, 0, none⟩ = some (.map (some b')) := fun lx_ => by rw [lx_.cell _ _ L3]; exact l3c
  have f0 : ∀ lx_ : Lat w3.heap.size w3, lx_.w.cell? ⟨w.heap.size, 0, none⟩ = some (.int .i64 a) := fun lx_ => by rw [lx_.cell _ _ Z3]; exact (blk_cell V3 0).trans rfl
  have f1 : ∀ lx_ : Lat w3.heap.size w3, lx_.w.cell? ⟨w.heap.size, 1, none⟩ = some (.int .i64 b) := fun lx_ => by rw [lx_.cell _ _ Z3]; exact (blk_cell V3 1).trans rfl
  have f2 : ∀ lx_ : Lat w3.heap.size w3, lx_.w.cell? ⟨w.heap.size, 2, none⟩ = some (.int .i64 c) := fun lx_ => by rw [lx_.cell _ _ Z3]; exact (blk_cell V3 2).trans rfl
  have f3 : ∀ lx_ : Lat w3.heap.size w3, lx_.w.cell? ⟨w.heap.size, 3, none⟩ = some (.int .i64 d) := fun lx_ => by rw [lx_.cell _ _ Z3]; exact (blk_cell V3 3).trans rfl
  have LV := (blk_cell N3 7).trans rfl
  refine wp_region_lat_tail 10 (by kernel_rfl) (by kernel_rfl) ?_
  simp only [List.take_succ_cons, List.take_zero, List.drop_succ_cons, List.drop_zero]
  repeat (go_big_quiet_step (fail))
  refine wpQuiet_nil ?_
  rintro w4 ⟨x4, hx4⟩
  have hb4 := x4.h
  rw [← hx4] at hb4
  clear hx4 x4 e0 f0 f1 f2 f3
  have T4 := T3.below hb4
  have N4 := below_at hb4 HN3 N3
  obtain ⟨w5, hrun, hm5, hg5, hs5⟩ := T4.map.store T4.ris T4.len ⟨s, ep, (a, b, c, d), now, true⟩ hs
  have hrun' := hrun
  simp only [ndV, cellsN] at hrun
  obtain ⟨l, hc4, hk4⟩ := T4.clk
  have hc5 : Clk B w5 T (.map (some b')) v m l := hc4.at (by omega) (fun k hk => hg5.block k (hc4.foot hk).2 (fun e => T4.nap _ rfl (by cases e; exact hk)))
  have N5 : w5.heap[w2.heap.size]? = some (.cells _ _ _) := (hg5.block _ (lt_of_at N4) (by intro e; injection e with e; exact OwnsM.ne (show OwnsM w4 Try.prog 9 ndV _ (L).length (fnd L) from T4.map) N4 e)).trans N4
  have NX : w2.heap.size ≠ T := by omega
  have HSET := fun t => set_any B T v m l s t w5 hc5 hs
  have iw : IntKind.i64.wrap (now + 10) = now + 10 := IntWalk.i64_in _ (by omega)
  have HT4 := hid T4
  have HC5 := hid hc5
  have HK4 := hid hk4
  have HM5 := hid hm5
  have HG5 := hid hg5
  have HB4 := hid hb4
  have l5 : w2.heap.size < w5.heap.size := lt_of_at N5
  have T5 := hc5.lt
  obtain ⟨l5c, l5f⟩ : w5.cell? ⟨T, 0, none⟩ = some (.map (some b')) ∧ ∀ i, w5.frozen? ⟨T, i, none⟩ = false := by
    obtain ⟨I, q, -⟩ := hc5.st
    exact ⟨(blk_cell q.blk 0).trans rfl, blk_free q.blk⟩
  clear hc5 hk4 hm5 hg5 hb4 T4 T3 hc4 LV
  go_wp2_with fail
  refine (HSET _).mono ?_
  rintro e w6 ⟨rfl, hp6⟩
  obtain ⟨h6, hb6, hk6⟩ := HT4.out.put ⟨s, ep, (a, b, c, d), now, true⟩ rfl hs (by simp only; omega) (by simp only; omega) HLEN.out HK4.out HM5.out HG5.out HC5.out hp6
  have N6 := hk6 _ _ _ _ (show w4.heap[w2.heap.size]? = some (.cells _ _ _) from N4) (by decide) (by decide)
  have lv6 : w6.cell? ⟨w2.heap.size, 7, none⟩ = some (.bool lx) := (blk_cell N6 7).trans rfl
  have n6 := lt_of_at N6
  have n6f := blk_free N6
  have H6 := hid h6
  have HB6 := hid hb6
  have HK6 := hid hk6
  clear h6 hb6 hk6 hp6 HSET N6 N4 N5
  go_wp2
  all_goals
    go_ret2
    refine ⟨rfl, H6.out, ?_, ?_⟩
    · exact HBB.out.trans ((HB4.out.mono (Nat.le_trans HBL.out HSZ.out)).trans HB6.out)
    · exact HKK.out.trans ((KeptX.of_below HB4.out).trans HK6.out)
set_option maxRecDepth 20000 in
set_option maxHeartbeats 1000000 in
theorem reg_new (B T : Nat) (nm : Option Nat) (v : Value) (m : Option Nat) (L : List Nd) (s : ByteArray) (ep a b c d now : Int) (w : World) (h : TabS B w T nm v m L) (hs : s.size ≤ maxLen) (hn : nameB s = true) (hv : okV (a, b, c, d) = true) (g1 : ¬ ep < 1) (g2 : ¬ 2147483648 ≤ ep) (g3 : ¬ now < 0) (g4 : ¬ 1099511627776 < now) (hA : fnd L (ky s) = none) (hlen : ¬ 12 ≤ L.length) (b' : Nat) (hnm : nm = some b') :
    Calls Try.prog 11 #[.pointer (some ⟨T, 0, none⟩), .string s, .int .i64 ep, .agg #[.int .i64 a, .int .i64 b, .int .i64 c, .int .i64 d], .int .i64 now] w fun e w' => e = .returned (.tuple #[.bool false, .int .i64 0]) ∧ TabB B w' T (putN L ⟨s, ep, (a, b, c, d), now, true⟩) ∧ Below B w w' ∧ KeptX w w' := by
  have hlt := h.lt
  have hNm : ∀ W, Calls Try.prog 22 #[.string s] W fun e w' => e = .returned (.bool true) ∧ Below W.heap.size W w' := fun W => by
    have h := name_any s W hs
    rw [hn] at h; exact h
  have hFm : ∀ W, Calls Try.prog 23 #[.agg #[.int .i64 a, .int .i64 b, .int .i64 c, .int .i64 d]] W fun e w' => e = .returned (.bool true) ∧ Below W.heap.size W w' := fun W => by
    have h := formed_any a b c d W
    have hv2 : formedB a b c d = true := hv
    rw [hv2] at h; exact h
  have qT : ∀ (w : World) (r : Option Nat), (binOp .eql 57 (.map r) (.map none)).run Try.prog w = .ok (.bool r.isNone) w := fun w r => run_eql_map_nil w _ _ _ r Try.underlying57
  subst hnm
  go_enter Try.func11, Try.ntmps11
  go_wp2_with fail
  refine (hNm _).mono ?_
  rintro e w1 ⟨rfl, hb1⟩
  have hs1 := hb1.size
  simp only [World.size_alloc] at hs1
  have B1 : Below w.heap.size w w1 := Below.trans (by repeat (first | with_reducible assumption | with_reducible exact Below.refl _ _ | with_reducible refine Below.drew ?_ | with_reducible refine below_drewN ?_ _ | with_reducible refine below_alloc ?_ _ | with_reducible refine Below.alloc ?_ (by first | omega | (simp; done) | (simp; omega)) _ | with_reducible refine Below.setCell ?_ (by first | omega | (simp; done) | (simp; omega)) _ | with_reducible refine below_setRow ?_ (by first | omega | (simp; done) | (simp; omega)) _)) (hb1.mono (by first | omega | (simp; done) | (simp; omega)))
  have z := below_at hb1 (n := w.heap.size) (by first | omega | (simp; done) | (simp; omega)) (by (repeat (first | (with_reducible assumption) | (with_reducible exact alloc_at _ _) | ((with_reducible apply alloc_at'); (simp; done)) | (with_reducible apply alloc_at_lt) | (with_reducible apply heap_drew_at) | (with_reducible apply heap_drewN_at) | (with_reducible apply heap_setCell_same) | ((with_reducible apply heap_set_ne); (first | omega | (dsimp only; omega) | (simp; done) | (simp; omega))) | (with_reducible apply setRow_at) | ((with_reducible apply setRow_ne); (first | omega | (dsimp only; omega) | (simp; done) | (simp; omega))))))
  have hl1 : w.heap.size < w1.heap.size := by omega
  clear hb1
  obtain ⟨z0, z1, z2, z3, zf⟩ := four z
  go_wp2_with fail
  refine (hFm _).mono ?_
  rintro e w2 ⟨rfl, hb2⟩
  have hs2 := hb2.size
  have B2 : Below w.heap.size w w2 := B1.trans (hb2.mono (by omega))
  have y := below_at hb2 hl1 z
  have hl2 : w.heap.size < w2.heap.size := by omega
  clear hb2 z z0 z1 z2 z3 zf
  obtain ⟨z0, z1, z2, z3, zf⟩ := four y
  have T2 := h.below B2
  obtain ⟨lc, lf⟩ := T2.tcell
  have hlt2 := T2.lt
  have hlook := T2.map.look_ok hs
  rw [hA] at hlook
  simp only [Option.getD_none, Option.isSome_none, ndV, cellsN, zeroN, zeroV] at hlook
  have hlen' : ∀ o ty, (Builtin.len_ #[57] ty #[.map (some b')]).run Try.prog (w2.alloc o) = .ok (.int .i64 L.length) (w2.alloc o) := fun o ty => (T2.map.at (fun b' e => by cases e; exact Below.heap_alloc _ _ _ T2.map.lt)).len ty
  have hff : ¬ (12 : Int) ≤ (L.length : Int) := by omega
  have HLEN : Hid ((putN L ⟨s, ep, (a, b, c, d), now, true⟩).length ≤ 12) := by
    unfold Hid
    rw [put_length h.ris, hA]
    simp; omega
  have HBL : Hid (B ≤ w.heap.size) := Nat.le_trans h.le (Nat.le_of_lt hlt)
  have HT2 := hid T2
  have HS := hid hs
  clear h T2 hs hlen
  go_upto_region 8 with fail
  clear hlook
  go_upto_region 14 with fail
  clear hlen'
  have hs := HS.out
  refine wp_name ?_
  intro w3 hw3
  have N3 : w3.heap[w2.heap.size]? = some (.cells #[.string ⟨#[]⟩, .int .i64 0, .int .i64 0, .int .i64 0, .int .i64 0, .int .i64 0, .int .i64 0, .bool false] 34 (0, 0)) := by rw [hw3]; exact at_of (by apply Exists.intro; refine ⟨?_, ?_⟩; (focus ((repeat (first | (with_reducible assumption) | (with_reducible exact alloc_at _ _) | ((with_reducible apply alloc_at'); (simp; done)) | (with_reducible apply alloc_at_lt) | (with_reducible apply heap_drew_at) | (with_reducible apply heap_drewN_at) | (with_reducible apply heap_setCell_same) | ((with_reducible apply heap_set_ne); (first | omega | (dsimp only; omega) | (simp; done) | (simp; omega))) | (with_reducible apply setRow_at) | ((with_reducible apply setRow_ne); (first | omega | (dsimp only; omega) | (simp; done) | (simp; omega))))))); simp)
  have V3 : w3.heap[w.heap.size]? = some (.cells #[.int .i64 a, .int .i64 b, .int .i64 c, .int .i64 d] 25 (0, 0)) := by rw [hw3]; exact at_of (by apply Exists.intro; refine ⟨?_, ?_⟩; (focus ((repeat (first | (with_reducible assumption) | (with_reducible exact alloc_at _ _) | ((with_reducible apply alloc_at'); (simp; done)) | (with_reducible apply alloc_at_lt) | (with_reducible apply heap_drew_at) | (with_reducible apply heap_drewN_at) | (with_reducible apply heap_setCell_same) | ((with_reducible apply heap_set_ne); (first | omega | (dsimp only; omega) | (simp; done) | (simp; omega))) | (with_reducible apply setRow_at) | ((with_reducible apply setRow_ne); (first | omega | (dsimp only; omega) | (simp; done) | (simp; omega))))))); simp)
  have BW3 : Below w2.heap.size w2 w3 := by rw [hw3]; exact (by repeat (first | with_reducible assumption | with_reducible exact Below.refl _ _ | with_reducible refine Below.drew ?_ | with_reducible refine below_drewN ?_ _ | with_reducible refine below_alloc ?_ _ | with_reducible refine Below.alloc ?_ (by first | omega | (simp; done) | (simp; omega)) _ | with_reducible refine Below.setCell ?_ (by first | omega | (simp; done) | (simp; omega)) _ | with_reducible refine below_setRow ?_ (by first | omega | (simp; done) | (simp; omega)) _))
  have HN3 := lt_of_at N3
  have Z3 := lt_of_at V3
  have T3 : TabS B w3 T (some b') v m L := HT2.out.below BW3
  have HBB : Hid (Below B w w3) := (B2.mono HBL.out).trans (BW3.mono (Nat.le_trans HBL.out B2.size))
  have HSZ : Hid (w.heap.size ≤ w3.heap.size) := Nat.le_trans B2.size BW3.size
  have HKK : Hid (KeptX w w3) := (KeptX.of_below B2).trans (KeptX.of_below BW3)
  clear hw3
  obtain ⟨l3c, l3f⟩ := T3.tcell
  have L3 := T3.lt
  have e0 : ∀ lx_ : Lat w3.heap.size w3, lx_.w.cell? ⟨T, 0, none⟩ = some (.map (some b')) := fun lx_ => by rw [lx_.cell _ _ L3]; exact l3c
  have f0 : ∀ lx_ : Lat w3.heap.size w3, lx_.w.cell? ⟨w.heap.size, 0, none⟩ = some (.int .i64 a) := fun lx_ => by rw [lx_.cell _ _ Z3]; exact (blk_cell V3 0).trans rfl
  have f1 : ∀ lx_ : Lat w3.heap.size w3, lx_.w.cell? ⟨w.heap.size, 1, none⟩ = some (.int .i64 b) := fun lx_ => by rw [lx_.cell _ _ Z3]; exact (blk_cell V3 1).trans rfl
  have f2 : ∀ lx_ : Lat w3.heap.size w3, lx_.w.cell? ⟨w.heap.size, 2, none⟩ = some (.int .i64 c) := fun lx_ => by rw [lx_.cell _ _ Z3]; exact (blk_cell V3 2).trans rfl
  have f3 : ∀ lx_ : Lat w3.heap.size w3, lx_.w.cell? ⟨w.heap.size, 3, none⟩ = some (.int .i64 d) := fun lx_ => by rw [lx_.cell _ _ Z3]; exact (blk_cell V3 3).trans rfl
  have LV := (blk_cell N3 7).trans rfl
  refine wp_region_lat_tail 10 (by kernel_rfl) (by kernel_rfl) ?_
  simp only [List.take_succ_cons, List.take_zero, List.drop_succ_cons, List.drop_zero]
  repeat (go_big_quiet_step (fail))
  refine wpQuiet_nil ?_
  rintro w4 ⟨x4, hx4⟩
  have hb4 := x4.h
  rw [← hx4] at hb4
  clear hx4 x4 e0 f0 f1 f2 f3
  have T4 := T3.below hb4
  have N4 := below_at hb4 HN3 N3
  obtain ⟨w5, hrun, hm5, hg5, hs5⟩ := T4.map.store T4.ris T4.len ⟨s, ep, (a, b, c, d), now, true⟩ hs
  have hrun' := hrun
  simp only [ndV, cellsN] at hrun
  obtain ⟨l, hc4, hk4⟩ := T4.clk
  have hc5 : Clk B w5 T (.map (some b')) v m l := hc4.at (by omega) (fun k hk => hg5.block k (hc4.foot hk).2 (fun e => T4.nap _ rfl (by cases e; exact hk)))
  have N5 : w5.heap[w2.heap.size]? = some (.cells _ _ _) := (hg5.block _ (lt_of_at N4) (by intro e; injection e with e; exact OwnsM.ne (show OwnsM w4 Try.prog 9 ndV _ (L).length (fnd L) from T4.map) N4 e)).trans N4
  have NX : w2.heap.size ≠ T := by omega
  have HSET := fun t => set_any B T v m l s t w5 hc5 hs
  have iw : IntKind.i64.wrap (now + 10) = now + 10 := IntWalk.i64_in _ (by omega)
  have HT4 := hid T4
  have HC5 := hid hc5
  have HK4 := hid hk4
  have HM5 := hid hm5
  have HG5 := hid hg5
  have HB4 := hid hb4
  have l5 : w2.heap.size < w5.heap.size := lt_of_at N5
  have T5 := hc5.lt
  obtain ⟨l5c, l5f⟩ : w5.cell? ⟨T, 0, none⟩ = some (.map (some b')) ∧ ∀ i, w5.frozen? ⟨T, i, none⟩ = false := by
    obtain ⟨I, q, -⟩ := hc5.st
    exact ⟨(blk_cell q.blk 0).trans rfl, blk_free q.blk⟩
  clear hc5 hk4 hm5 hg5 hb4 T4 T3 hc4 LV
  go_wp2_with fail
  refine (HSET _).mono ?_
  rintro e w6 ⟨rfl, hp6⟩
  obtain ⟨h6, hb6, hk6⟩ := HT4.out.put ⟨s, ep, (a, b, c, d), now, true⟩ rfl hs (by simp only; omega) (by simp only; omega) HLEN.out HK4.out HM5.out HG5.out HC5.out hp6
  have N6 := hk6 _ _ _ _ (show w4.heap[w2.heap.size]? = some (.cells _ _ _) from N4) (by decide) (by decide)
  have lv6 : w6.cell? ⟨w2.heap.size, 7, none⟩ = some (.bool false) := (blk_cell N6 7).trans rfl
  have n6 := lt_of_at N6
  have n6f := blk_free N6
  have H6 := hid h6
  have HB6 := hid hb6
  have HK6 := hid hk6
  clear h6 hb6 hk6 hp6 HSET N6 N4 N5
  go_wp2
  all_goals
    go_ret2
    refine ⟨rfl, H6.out, ?_, ?_⟩
    · exact HBB.out.trans ((HB4.out.mono (Nat.le_trans HBL.out HSZ.out)).trans HB6.out)
    · exact HKK.out.trans ((KeptX.of_below HB4.out).trans HK6.out)
set_option maxRecDepth 20000 in
set_option maxHeartbeats 1000000 in
theorem reg_first (B T : Nat) (nm : Option Nat) (v : Value) (m : Option Nat) (L : List Nd) (s : ByteArray) (ep a b c d now : Int) (w : World) (h : TabS B w T nm v m L) (hs : s.size ≤ maxLen) (hn : nameB s = true) (hv : okV (a, b, c, d) = true) (g1 : ¬ ep < 1) (g2 : ¬ 2147483648 ≤ ep) (g3 : ¬ now < 0) (g4 : ¬ 1099511627776 < now) (hnm : nm = none) :
    Calls Try.prog 11 #[.pointer (some ⟨T, 0, none⟩), .string s, .int .i64 ep, .agg #[.int .i64 a, .int .i64 b, .int .i64 c, .int .i64 d], .int .i64 now] w fun e w' => e = .returned (.tuple #[.bool false, .int .i64 0]) ∧ TabB B w' T (putN L ⟨s, ep, (a, b, c, d), now, true⟩) ∧ Below B w w' ∧ KeptX w w' := by
  have hlt := h.lt
  have hNm : ∀ W, Calls Try.prog 22 #[.string s] W fun e w' => e = .returned (.bool true) ∧ Below W.heap.size W w' := fun W => by
    have h := name_any s W hs
    rw [hn] at h; exact h
  have hFm : ∀ W, Calls Try.prog 23 #[.agg #[.int .i64 a, .int .i64 b, .int .i64 c, .int .i64 d]] W fun e w' => e = .returned (.bool true) ∧ Below W.heap.size W w' := fun W => by
    have h := formed_any a b c d W
    have hv2 : formedB a b c d = true := hv
    rw [hv2] at h; exact h
  have qT : ∀ (w : World) (r : Option Nat), (binOp .eql 57 (.map r) (.map none)).run Try.prog w = .ok (.bool r.isNone) w := fun w r => run_eql_map_nil w _ _ _ r Try.underlying57
  subst hnm
  obtain rfl : L = [] := h.map
  have hA : fnd [] (ky s) = none := rfl
  go_enter Try.func11, Try.ntmps11
  go_wp2_with fail
  refine (hNm _).mono ?_
  rintro e w1 ⟨rfl, hb1⟩
  have hs1 := hb1.size
  simp only [World.size_alloc] at hs1
  have B1 : Below w.heap.size w w1 := Below.trans (by repeat (first | with_reducible assumption | with_reducible exact Below.refl _ _ | with_reducible refine Below.drew ?_ | with_reducible refine below_drewN ?_ _ | with_reducible refine below_alloc ?_ _ | with_reducible refine Below.alloc ?_ (by first | omega | (simp; done) | (simp; omega)) _ | with_reducible refine Below.setCell ?_ (by first | omega | (simp; done) | (simp; omega)) _ | with_reducible refine below_setRow ?_ (by first | omega | (simp; done) | (simp; omega)) _)) (hb1.mono (by first | omega | (simp; done) | (simp; omega)))
  have z := below_at hb1 (n := w.heap.size) (by first | omega | (simp; done) | (simp; omega)) (by (repeat (first | (with_reducible assumption) | (with_reducible exact alloc_at _ _) | ((with_reducible apply alloc_at'); (simp; done)) | (with_reducible apply alloc_at_lt) | (with_reducible apply heap_drew_at) | (with_reducible apply heap_drewN_at) | (with_reducible apply heap_setCell_same) | ((with_reducible apply heap_set_ne); (first | omega | (dsimp only; omega) | (simp; done) | (simp; omega))) | (with_reducible apply setRow_at) | ((with_reducible apply setRow_ne); (first | omega | (dsimp only; omega) | (simp; done) | (simp; omega))))))
  have hl1 : w.heap.size < w1.heap.size := by omega
  clear hb1
  obtain ⟨z0, z1, z2, z3, zf⟩ := four z
  go_wp2_with fail
  refine (hFm _).mono ?_
  rintro e w2 ⟨rfl, hb2⟩
  have hs2 := hb2.size
  have B2 : Below w.heap.size w w2 := B1.trans (hb2.mono (by omega))
  have y := below_at hb2 hl1 z
  have hl2 : w.heap.size < w2.heap.size := by omega
  clear hb2 z z0 z1 z2 z3 zf
  obtain ⟨z0, z1, z2, z3, zf⟩ := four y
  have T2 := h.below B2
  obtain ⟨lc, lf⟩ := T2.tcell
  have hlt2 := T2.lt
  have hlook := T2.map.look_ok hs
  rw [hA] at hlook
  simp only [Option.getD_none, Option.isSome_none, ndV, cellsN, zeroN, zeroV] at hlook
  have hlen' : ∀ w' ty, (Builtin.len_ #[57] ty #[.map none]).run Try.prog w' = .ok (.int .i64 0) w' := fun w' ty => Maps.len_nil Try.underlying57 ty
  have hmk : ∀ w', (Instr.makeMap 57 none).run Try.prog w' = .ok (.map (some w'.heap.size)) (w'.alloc (.map #[] 0)) := fun w' => run_makeMap _ w'
  have HLEN : Hid ((putN [] ⟨s, ep, (a, b, c, d), now, true⟩).length ≤ 12) := by unfold Hid; simp [putN]
  have HBL : Hid (B ≤ w.heap.size) := Nat.le_trans h.le (Nat.le_of_lt hlt)
  have HBT : Hid (B ≤ T) := h.le
  have HT2 := hid T2
  have HS := hid hs
  have nl : T ≠ w2.heap.size := by omega
  have nl2 : T ≠ w2.heap.size + 1 := by omega
  have nl3 : w.heap.size ≠ T := by omega
  obtain ⟨l0, hc2, hk2⟩ := HT2.out.clk
  have hT2b : w2.heap[T]? = some (.cells #[.map none, v, .map m] 63 (0, 0)) := by
    obtain ⟨I, q, -⟩ := hc2.st
    exact q.blk
  have HC2 := hid hc2
  clear h T2 hs hc2
  go_upto_region 8 with fail
  clear hlook
  go_upto_region 14 with fail
  clear hlen' hmk
  have hs := HS.out
  refine wp_name ?_
  intro w3 hw3
  have N3 : w3.heap[w2.heap.size]? = some (.cells #[.string ⟨#[]⟩, .int .i64 0, .int .i64 0, .int .i64 0, .int .i64 0, .int .i64 0, .int .i64 0, .bool false] 34 (0, 0)) := by rw [hw3]; exact at_of (by apply Exists.intro; refine ⟨?_, ?_⟩; (focus ((repeat (first | (with_reducible assumption) | (with_reducible exact alloc_at _ _) | ((with_reducible apply alloc_at'); (simp; done)) | (with_reducible apply alloc_at_lt) | (with_reducible apply heap_drew_at) | (with_reducible apply heap_drewN_at) | (with_reducible apply heap_setCell_same) | ((with_reducible apply heap_set_ne); (first | omega | (dsimp only; omega) | (simp; done) | (simp; omega))) | (with_reducible apply setRow_at) | ((with_reducible apply setRow_ne); (first | omega | (dsimp only; omega) | (simp; done) | (simp; omega))))))); simp)
  have V3 : w3.heap[w.heap.size]? = some (.cells #[.int .i64 a, .int .i64 b, .int .i64 c, .int .i64 d] 25 (0, 0)) := by rw [hw3]; exact at_of (by apply Exists.intro; refine ⟨?_, ?_⟩; (focus ((repeat (first | (with_reducible assumption) | (with_reducible exact alloc_at _ _) | ((with_reducible apply alloc_at'); (simp; done)) | (with_reducible apply alloc_at_lt) | (with_reducible apply heap_drew_at) | (with_reducible apply heap_drewN_at) | (with_reducible apply heap_setCell_same) | ((with_reducible apply heap_set_ne); (first | omega | (dsimp only; omega) | (simp; done) | (simp; omega))) | (with_reducible apply setRow_at) | ((with_reducible apply setRow_ne); (first | omega | (dsimp only; omega) | (simp; done) | (simp; omega))))))); simp)
  have C3 : w3.heap[T]? = some (.cells #[.map (some (w2.heap.size + 1)), v, .map m] 63 (0, 0)) := by rw [hw3]; exact at_of (by apply Exists.intro; refine ⟨?_, ?_⟩; (focus ((repeat (first | (with_reducible assumption) | (with_reducible exact alloc_at _ _) | ((with_reducible apply alloc_at'); (simp; done)) | (with_reducible apply alloc_at_lt) | (with_reducible apply heap_drew_at) | (with_reducible apply heap_drewN_at) | (with_reducible apply heap_setCell_same) | ((with_reducible apply heap_set_ne); (first | omega | (dsimp only; omega) | (simp; done) | (simp; omega))) | (with_reducible apply setRow_at) | ((with_reducible apply setRow_ne); (first | omega | (dsimp only; omega) | (simp; done) | (simp; omega))))))); simp)
  have M3 : w3.heap[w2.heap.size + 1]? = some (.map #[] 0) := by rw [hw3]; exact (by (repeat (first | (with_reducible assumption) | (with_reducible exact alloc_at _ _) | ((with_reducible apply alloc_at'); (simp; done)) | (with_reducible apply alloc_at_lt) | (with_reducible apply heap_drew_at) | (with_reducible apply heap_drewN_at) | (with_reducible apply heap_setCell_same) | ((with_reducible apply heap_set_ne); (first | omega | (dsimp only; omega) | (simp; done) | (simp; omega))) | (with_reducible apply setRow_at) | ((with_reducible apply setRow_ne); (first | omega | (dsimp only; omega) | (simp; done) | (simp; omega))))))
  have G3 : w2.grownBy w3 (some T) := by
    rw [hw3]
    repeat (first | exact grown_below (Below.refl _ _) _ | (refine only_setCell ?_ (by first | (left; rfl) | (right; dsimp only; omega)) _) | (refine only_alloc ?_ _))
  have HN3 := lt_of_at N3
  have Z3 := lt_of_at V3
  have T3 : TabS B w3 T (some (w2.heap.size + 1)) v m [] := by
    refine ⟨⟨l0, HC2.out.moved C3 (fun k hk hne => G3.block k hk (fun e => hne (by cases e; rfl))) G3.size, hk2⟩, fun b e => by cases e; have := HBL.out; omega, fun b e => ?_, ?_, List.Pairwise.nil, by simp, fun _ h => (nomatch h), fun _ h => (nomatch h)⟩
    · cases e
      intro hf
      have := (HC2.out.foot hf).2
      omega
    · have h2 := OwnsM.made (w2.alloc (.map #[] 0)) Try.prog 9 ndV
      rw [show (w2.alloc (.map #[] 0)).heap.size = w2.heap.size + 1 by simp] at h2
      exact OwnsM.at h2 (by rw [M3]; exact (alloc_at' _ (by simp)).symm)
  have HBB : Hid (Below B w w3) := (B2.mono HBL.out).trans (below_grown G3 (Nat.le_trans HBL.out B2.size) (fun j e => by cases e; exact HBT.out))
  have HSZ : Hid (w.heap.size ≤ w3.heap.size) := Nat.le_trans B2.size G3.size
  have HKK : Hid (KeptX w w3) := (KeptX.of_below B2).trans (fun k cs t f hk h1 h2 => (G3.block k (lt_of_at hk) (fun e => by
    cases e
    rw [hT2b] at hk
    injection hk with hk
    injection hk with _ h5
    exact h1 h5.symm)).trans hk)
  clear hw3
  obtain ⟨l3c, l3f⟩ := T3.tcell
  have L3 := T3.lt
  have e0 : ∀ lx_ : Lat w3.heap.size w3, lx_.w.cell? ⟨T, 0, none⟩ = some (.map (some (w2.heap.size + 1))) := fun lx_ => by rw [lx_.cell _ _ L3]; exact l3c
  have f0 : ∀ lx_ : Lat w3.heap.size w3, lx_.w.cell? ⟨w.heap.size, 0, none⟩ = some (.int .i64 a) := fun lx_ => by rw [lx_.cell _ _ Z3]; exact (blk_cell V3 0).trans rfl
  have f1 : ∀ lx_ : Lat w3.heap.size w3, lx_.w.cell? ⟨w.heap.size, 1, none⟩ = some (.int .i64 b) := fun lx_ => by rw [lx_.cell _ _ Z3]; exact (blk_cell V3 1).trans rfl
  have f2 : ∀ lx_ : Lat w3.heap.size w3, lx_.w.cell? ⟨w.heap.size, 2, none⟩ = some (.int .i64 c) := fun lx_ => by rw [lx_.cell _ _ Z3]; exact (blk_cell V3 2).trans rfl
  have f3 : ∀ lx_ : Lat w3.heap.size w3, lx_.w.cell? ⟨w.heap.size, 3, none⟩ = some (.int .i64 d) := fun lx_ => by rw [lx_.cell _ _ Z3]; exact (blk_cell V3 3).trans rfl
  have LV := (blk_cell N3 7).trans rfl
  refine wp_region_lat_tail 10 (by kernel_rfl) (by kernel_rfl) ?_
  simp only [List.take_succ_cons, List.take_zero, List.drop_succ_cons, List.drop_zero]
  repeat (go_big_quiet_step (fail))
  refine wpQuiet_nil ?_
  rintro w4 ⟨x4, hx4⟩
  have hb4 := x4.h
  rw [← hx4] at hb4
  clear hx4 x4 e0 f0 f1 f2 f3
  have T4 := T3.below hb4
  have N4 := below_at hb4 HN3 N3
  obtain ⟨w5, hrun, hm5, hg5, hs5⟩ := T4.map.store T4.ris T4.len ⟨s, ep, (a, b, c, d), now, true⟩ hs
  have hrun' := hrun
  simp only [ndV, cellsN] at hrun
  obtain ⟨l, hc4, hk4⟩ := T4.clk
  have hc5 : Clk B w5 T (.map (some (w2.heap.size + 1))) v m l := hc4.at (by omega) (fun k hk => hg5.block k (hc4.foot hk).2 (fun e => T4.nap _ rfl (by cases e; exact hk)))
  have N5 : w5.heap[w2.heap.size]? = some (.cells _ _ _) := (hg5.block _ (lt_of_at N4) (by intro e; injection e with e; exact OwnsM.ne (show OwnsM w4 Try.prog 9 ndV _ (([] : List Nd)).length (fnd ([] : List Nd)) from T4.map) N4 e)).trans N4
  have NX : w2.heap.size ≠ T := by omega
  have HSET := fun t => set_any B T v m l s t w5 hc5 hs
  have iw : IntKind.i64.wrap (now + 10) = now + 10 := IntWalk.i64_in _ (by omega)
  have HT4 := hid T4
  have HC5 := hid hc5
  have HK4 := hid hk4
  have HM5 := hid hm5
  have HG5 := hid hg5
  have HB4 := hid hb4
  have l5 : w2.heap.size < w5.heap.size := lt_of_at N5
  have T5 := hc5.lt
  obtain ⟨l5c, l5f⟩ : w5.cell? ⟨T, 0, none⟩ = some (.map (some (w2.heap.size + 1))) ∧ ∀ i, w5.frozen? ⟨T, i, none⟩ = false := by
    obtain ⟨I, q, -⟩ := hc5.st
    exact ⟨(blk_cell q.blk 0).trans rfl, blk_free q.blk⟩
  clear hc5 hk4 hm5 hg5 hb4 T4 T3 hc4 LV
  go_wp2_with fail
  refine (HSET _).mono ?_
  rintro e w6 ⟨rfl, hp6⟩
  obtain ⟨h6, hb6, hk6⟩ := HT4.out.put ⟨s, ep, (a, b, c, d), now, true⟩ rfl hs (by simp only; omega) (by simp only; omega) HLEN.out HK4.out HM5.out HG5.out HC5.out hp6
  have N6 := hk6 _ _ _ _ (show w4.heap[w2.heap.size]? = some (.cells _ _ _) from N4) (by decide) (by decide)
  have lv6 : w6.cell? ⟨w2.heap.size, 7, none⟩ = some (.bool false) := (blk_cell N6 7).trans rfl
  have n6 := lt_of_at N6
  have n6f := blk_free N6
  have H6 := hid h6
  have HB6 := hid hb6
  have HK6 := hid hk6
  clear h6 hb6 hk6 hp6 HSET N6 N4 N5
  go_wp2
  all_goals
    go_ret2
    refine ⟨rfl, H6.out, ?_, ?_⟩
    · exact HBB.out.trans ((HB4.out.mono (Nat.le_trans HBL.out HSZ.out)).trans HB6.out)
    · exact HKK.out.trans ((KeptX.of_below HB4.out).trans HK6.out)
/-- Register, whatever comes. -/
theorem register_any (B T : Nat) (L : List Nd) (s : ByteArray) (ep a b c d now : Int) (w : World) (h : TabB B w T L) (hs : s.size ≤ maxLen) :
    Calls Try.prog 11 #[.pointer (some ⟨T, 0, none⟩), .string s, .int .i64 ep, .agg #[.int .i64 a, .int .i64 b, .int .i64 c, .int .i64 d], .int .i64 now] w fun e w' => e = .returned (.tuple #[.bool (regR L s ep (a, b, c, d) now).1, .int .i64 (regR L s ep (a, b, c, d) now).2.1]) ∧ TabB B w' T (regR L s ep (a, b, c, d) now).2.2 ∧ Below B w w' ∧ KeptX w w' := by
  have HH := hid h
  obtain ⟨nm, v, m, h⟩ := h
  have hBL : B ≤ w.heap.size := Nat.le_trans h.le (Nat.le_of_lt h.lt)
  have old : ∀ {w'}, Below w.heap.size w w' → TabB B w' T L ∧ Below B w w' ∧ KeptX w w' := fun hb => ⟨HH.out.below hb, hb.mono hBL, KeptX.of_below hb⟩
  cases hn : nameB s with
  | false =>
    rw [regR_form (.inl hn)]
    exact (reg_name B T nm v m L s ep a b c d now w h hs hn).mono (fun e w' ⟨h1, h2⟩ => ⟨h1, old h2⟩)
  | true =>
    cases hv : okV (a, b, c, d) with
    | false =>
      rw [regR_form (.inr hv)]
      exact (reg_form B T nm v m L s ep a b c d now w h hs hn hv).mono (fun e w' ⟨h1, h2⟩ => ⟨h1, old h2⟩)
    | true =>
      by_cases hr : ep < 1 ∨ 2147483648 ≤ ep ∨ now < 0 ∨ 1099511627776 < now
      · rw [regR_range hn hv hr]
        exact (reg_range B T nm v m L s ep a b c d now w h hs hn hv hr).mono (fun e w' ⟨h1, h2⟩ => ⟨h1, old h2⟩)
      · rw [regR_in hn hv hr]
        have g1 : ¬ ep < 1 := fun e => hr (.inl e)
        have g2 : ¬ 2147483648 ≤ ep := fun e => hr (.inr (.inl e))
        have g3 : ¬ now < 0 := fun e => hr (.inr (.inr (.inl e)))
        have g4 : ¬ 1099511627776 < now := fun e => hr (.inr (.inr (.inr e)))
        cases hA : fnd L (ky s) with
        | some x =>
          simp only
          by_cases hle : ep ≤ x.epoch
          · rw [if_pos hle]
            exact (reg_stale B T nm v m L s ep a b c d now w h hs hn hv g1 g2 g3 g4 x hA hle).mono (fun e w' ⟨h1, h2⟩ => ⟨h1, old h2⟩)
          · rw [if_neg hle]
            exact reg_old B T nm v m L s ep a b c d now w h hs hn hv g1 g2 g3 g4 x hA hle
        | none =>
          simp only
          by_cases hf : 12 ≤ L.length
          · rw [if_pos hf]
            exact (reg_full B T nm v m L s ep a b c d now w h hs hn hv g1 g2 g3 g4 hA hf).mono (fun e w' ⟨h1, h2⟩ => ⟨h1, old h2⟩)
          · rw [if_neg hf]
            cases nm with
            | some b' => exact reg_new B T _ v m L s ep a b c d now w h hs hn hv g1 g2 g3 g4 hA hf b' rfl
            | none =>
              obtain rfl : L = [] := h.map
              exact reg_first B T _ v m [] s ep a b c d now w h hs hn hv g1 g2 g3 g4 rfl
end Go.Proofs.Ytkplhobiciddoaa
