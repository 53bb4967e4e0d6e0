/- Contracts of chapter 19's New, Get, Beat. -/
import Derived.Test.YtkplhobiciddoaaWk1
import Derived.Test.YtkplhobiciddoaaNodE
namespace Go.Proofs.Ytkplhobiciddoaa
open Go.RowKit Go.Maps Go.WideShapes
set_option maxRecDepth 20000 in
set_option maxHeartbeats 1000000 in
theorem new_b (B : Nat) (w : World) (hB : B ≤ w.heap.size) : Calls Try.prog 10 #[] w fun e w' => e = .returned (.pointer (some ⟨w.heap.size, 0, none⟩)) ∧ Below w.heap.size w w' ∧ TabB B w' w.heap.size [] := by
  go_enter Try.func10, Try.ntmps10
  go_wp2
  all_goals
    go_ret
    refine ⟨rfl, (by repeat (first | with_reducible assumption | with_reducible exact Below.refl _ _ | with_reducible refine Below.drew ?_ | with_reducible refine below_drewN ?_ _ | with_reducible refine below_alloc ?_ _ | with_reducible refine Below.alloc ?_ (by first | omega | (simp; done) | (simp; omega)) _ | with_reducible refine Below.setCell ?_ (by first | omega | (simp; done) | (simp; omega)) _ | with_reducible refine below_setRow ?_ (by first | omega | (simp; done) | (simp; omega)) _)), none, .slice none 0 0, none, ⟨[], Clk.start hB (by (repeat (first | (with_reducible assumption) | (with_reducible exact alloc_at _ _) | ((with_reducible apply alloc_at'); (simp; done)) | (with_reducible apply alloc_at_lt) | (with_reducible apply heap_drew_at) | (with_reducible apply heap_drewN_at) | (with_reducible apply heap_setCell_same) | ((with_reducible apply heap_set_ne); (first | omega | (dsimp only; omega) | (simp; done) | (simp; omega))) | (with_reducible apply setRow_at) | ((with_reducible apply setRow_ne); (first | omega | (dsimp only; omega) | (simp; done) | (simp; omega)))))), lk_nil⟩, (fun b e => nomatch e), (fun b e => nomatch e), rfl, List.Pairwise.nil, by simp, (fun _ h => nomatch h), (fun _ h => nomatch h)⟩
set_option maxRecDepth 20000 in
set_option maxHeartbeats 1000000 in
theorem getn_none (s : ByteArray) (w : World) : Calls Try.prog 12 #[.pointer none, .string s] w fun e w' => e = .returned (.tuple #[ndV zeroN, .int .i64 3]) ∧ Below w.heap.size w w' := by
  simp only [ndV, cellsN, zeroN, zeroV]
  go_enter Try.func12, Try.ntmps12
  go_wp2
  refine ret_row2 rfl w.heap.size #[.string ⟨#[]⟩, .int .i64 0, .int .i64 0, .int .i64 0, .int .i64 0, .int .i64 0, .int .i64 0, .bool false] 34 _ rfl Try.underlying34 rfl infoNode rfl (by apply Exists.intro; refine ⟨?_, ?_⟩; (focus ((repeat (first | (with_reducible assumption) | (with_reducible exact alloc_at _ _) | ((with_reducible apply alloc_at'); (simp; done)) | (with_reducible apply alloc_at_lt) | (with_reducible apply heap_drew_at) | (with_reducible apply heap_drewN_at) | (with_reducible apply heap_setCell_same) | ((with_reducible apply heap_set_ne); (first | omega | (dsimp only; omega) | (simp; done) | (simp; omega))) | (with_reducible apply setRow_at) | ((with_reducible apply setRow_ne); (first | omega | (dsimp only; omega) | (simp; done) | (simp; omega))))))); simp) ⟨rfl, (by repeat (first | with_reducible assumption | with_reducible exact Below.refl _ _ | with_reducible refine Below.drew ?_ | with_reducible refine below_drewN ?_ _ | with_reducible refine below_alloc ?_ _ | with_reducible refine Below.alloc ?_ (by first | omega | (simp; done) | (simp; omega)) _ | with_reducible refine Below.setCell ?_ (by first | omega | (simp; done) | (simp; omega)) _ | with_reducible refine below_setRow ?_ (by first | omega | (simp; done) | (simp; omega)) _))⟩
set_option maxRecDepth 20000 in
set_option maxHeartbeats 1000000 in
theorem getn_any (B T : Nat) (nm : Option Nat) (v : Value) (m : Option Nat) (L : List Nd) (s : ByteArray) (w : World) (h : TabS B w T nm v m L) (hs : s.size ≤ maxLen) :
    Calls Try.prog 12 #[.pointer (some ⟨T, 0, none⟩), .string s] w fun e w' => e = .returned (.tuple #[ndV (getR L s).1, .int .i64 (getR L s).2]) ∧ Below w.heap.size w w' := by
  have hlt := h.lt
  obtain ⟨hc, hf⟩ := h.tcell
  have hlook : ∀ o, (Instr.lookup 57 (.map nm) (.string s) true).run Try.prog (w.alloc o) = .ok (.tuple #[ndV ((fnd L (ky s)).getD zeroN), .bool (fnd L (ky s)).isSome]) (w.alloc o) :=
    fun o => (h.map.at (fun b e => by subst e; exact Below.heap_alloc _ _ _ h.map.lt)).look_ok hs
  clear h
  unfold getR
  cases hA : fnd L (ky s) with
  | none =>
    rw [hA] at hlook
    simp only [Option.getD_none, Option.isSome_none, ndV, cellsN, zeroN, zeroV] at hlook ⊢
    go_enter Try.func12, Try.ntmps12
    go_wp2
    refine ret_row2 rfl w.heap.size #[.string ⟨#[]⟩, .int .i64 0, .int .i64 0, .int .i64 0, .int .i64 0, .int .i64 0, .int .i64 0, .bool false] 34 _ rfl Try.underlying34 rfl infoNode rfl (by apply Exists.intro; refine ⟨?_, ?_⟩; (focus ((repeat (first | (with_reducible assumption) | (with_reducible exact alloc_at _ _) | ((with_reducible apply alloc_at'); (simp; done)) | (with_reducible apply alloc_at_lt) | (with_reducible apply heap_drew_at) | (with_reducible apply heap_drewN_at) | (with_reducible apply heap_setCell_same) | ((with_reducible apply heap_set_ne); (first | omega | (dsimp only; omega) | (simp; done) | (simp; omega))) | (with_reducible apply setRow_at) | ((with_reducible apply setRow_ne); (first | omega | (dsimp only; omega) | (simp; done) | (simp; omega))))))); simp) ⟨rfl, (by repeat (first | with_reducible assumption | with_reducible exact Below.refl _ _ | with_reducible refine Below.drew ?_ | with_reducible refine below_drewN ?_ _ | with_reducible refine below_alloc ?_ _ | with_reducible refine Below.alloc ?_ (by first | omega | (simp; done) | (simp; omega)) _ | with_reducible refine Below.setCell ?_ (by first | omega | (simp; done) | (simp; omega)) _ | with_reducible refine below_setRow ?_ (by first | omega | (simp; done) | (simp; omega)) _))⟩
  | some x =>
    obtain ⟨nx, ex, ⟨cx0, cx1, cx2, cx3⟩, sx, lx⟩ := x
    rw [hA] at hlook
    simp only [Option.getD_some, Option.isSome_some, ndV, cellsN] at hlook ⊢
    go_enter Try.func12, Try.ntmps12
    go_wp2
    refine ret_row2 rfl w.heap.size #[.string nx, .int .i64 ex, .int .i64 cx0, .int .i64 cx1, .int .i64 cx2, .int .i64 cx3, .int .i64 sx, .bool lx] 34 _ rfl Try.underlying34 rfl infoNode rfl (by apply Exists.intro; refine ⟨?_, ?_⟩; (focus ((repeat (first | (with_reducible assumption) | (with_reducible exact alloc_at _ _) | ((with_reducible apply alloc_at'); (simp; done)) | (with_reducible apply alloc_at_lt) | (with_reducible apply heap_drew_at) | (with_reducible apply heap_drewN_at) | (with_reducible apply heap_setCell_same) | ((with_reducible apply heap_set_ne); (first | omega | (dsimp only; omega) | (simp; done) | (simp; omega))) | (with_reducible apply setRow_at) | ((with_reducible apply setRow_ne); (first | omega | (dsimp only; omega) | (simp; done) | (simp; omega))))))); simp) ⟨rfl, (by repeat (first | with_reducible assumption | with_reducible exact Below.refl _ _ | with_reducible refine Below.drew ?_ | with_reducible refine below_drewN ?_ _ | with_reducible refine below_alloc ?_ _ | with_reducible refine Below.alloc ?_ (by first | omega | (simp; done) | (simp; omega)) _ | with_reducible refine Below.setCell ?_ (by first | omega | (simp; done) | (simp; omega)) _ | with_reducible refine below_setRow ?_ (by first | omega | (simp; done) | (simp; omega)) _))⟩
theorem get_b (B T : Nat) (L : List Nd) (s : ByteArray) (w : World) (h : TabB B w T L) (hs : s.size ≤ maxLen) :
    Calls Try.prog 12 #[.pointer (some ⟨T, 0, none⟩), .string s] w fun e w' => e = .returned (.tuple #[ndV (getR L s).1, .int .i64 (getR L s).2]) ∧ Below w.heap.size w w' := by
  obtain ⟨nm, v, m, h⟩ := h
  exact getn_any B T nm v m L s w h hs
theorem beatR_none {L : List Nd} {s : ByteArray} {ep now : Int} (h : fnd L (ky s) = none) : beatR L s ep now = (3, L) := by unfold beatR; rw [h]
theorem beatR_some {L : List Nd} {s : ByteArray} {ep now : Int} {x : Nd} (h : fnd L (ky s) = some x) : beatR L s ep now = if ep ≠ x.epoch ∨ x.live = false then (14, L) else if now < x.seen ∨ 1099511627776 < now then (2, L) else (0, putN L { x with seen := now }) := by unfold beatR; rw [h]
set_option maxRecDepth 20000 in
set_option maxHeartbeats 1000000 in
theorem beat_none (B T : Nat) (nm : Option Nat) (v : Value) (m : Option Nat) (L : List Nd) (s : ByteArray) (ep now : Int) (w : World) (h : TabS B w T nm v m L) (hs : s.size ≤ maxLen) (hA : fnd L (ky s) = none) :
    Calls Try.prog 13 #[.pointer (some ⟨T, 0, none⟩), .string s, .int .i64 ep, .int .i64 now] w fun e w' => e = .returned (.int .i64 3) ∧ Below w.heap.size w w' := by
  have hG : Calls Try.prog 12 #[.pointer (some ⟨T, 0, none⟩), .string s] w fun e w' => e = .returned (.tuple #[.agg #[.string ⟨#[]⟩, .int .i64 0, .int .i64 0, .int .i64 0, .int .i64 0, .int .i64 0, .int .i64 0, .bool false], .int .i64 3]) ∧ Below w.heap.size w w' := by
    have h := getn_any B T nm v m L s w h hs
    rw [show getR L s = (zeroN, 3) by unfold getR; rw [hA]] at h
    exact h
  clear h
  go_enter Try.func13, Try.ntmps13
  go_wp2_with fail
  refine hG.mono ?_
  rintro e w1 ⟨rfl, hb1⟩
  have hs1 := hb1.size
  go_wp2
  all_goals
    go_ret
    exact ⟨rfl, (by repeat (first | with_reducible assumption | with_reducible exact Below.refl _ _ | with_reducible refine Below.drew ?_ | with_reducible refine below_drewN ?_ _ | with_reducible refine below_alloc ?_ _ | with_reducible refine Below.alloc ?_ (by first | omega | (simp; done) | (simp; omega)) _ | with_reducible refine Below.setCell ?_ (by first | omega | (simp; done) | (simp; omega)) _ | with_reducible refine below_setRow ?_ (by first | omega | (simp; done) | (simp; omega)) _))⟩
set_option maxRecDepth 20000 in
set_option maxHeartbeats 1000000 in
theorem beat_stale (B T : Nat) (nm : Option Nat) (v : Value) (m : Option Nat) (L : List Nd) (s : ByteArray) (ep now : Int) (w : World) (h : TabS B w T nm v m L) (hs : s.size ≤ maxLen) (x : Nd) (hA : fnd L (ky s) = some x) (hst : ep ≠ x.epoch ∨ x.live = false) :
    Calls Try.prog 13 #[.pointer (some ⟨T, 0, none⟩), .string s, .int .i64 ep, .int .i64 now] w fun e w' => e = .returned (.int .i64 14) ∧ Below w.heap.size w w' := by
  obtain ⟨nx, ex, ⟨cx0, cx1, cx2, cx3⟩, sx, lx⟩ := x
  have hG : Calls Try.prog 12 #[.pointer (some ⟨T, 0, none⟩), .string s] w fun e w' => e = .returned (.tuple #[.agg #[.string nx, .int .i64 ex, .int .i64 cx0, .int .i64 cx1, .int .i64 cx2, .int .i64 cx3, .int .i64 sx, .bool lx], .int .i64 0]) ∧ Below w.heap.size w w' := by
    have h := getn_any B T nm v m L s w h hs
    rw [show getR L s = (⟨nx, ex, (cx0, cx1, cx2, cx3), sx, lx⟩, 0) by unfold getR; rw [hA]] at h
    exact h
  simp only at hst
  have HST := hid hst
  clear h hst
  go_enter Try.func13, Try.ntmps13
  go_wp2_with fail
  refine hG.mono ?_
  rintro e w1 ⟨rfl, hb1⟩
  have hs1 := hb1.size
  by_cases g1 : ep = ex
  · subst g1
    obtain rfl : lx = false := by
      rcases HST.out with h | h
      · exact absurd rfl h
      · exact h
    go_wp2
    all_goals
      go_ret
      exact ⟨rfl, (by repeat (first | with_reducible assumption | with_reducible exact Below.refl _ _ | with_reducible refine Below.drew ?_ | with_reducible refine below_drewN ?_ _ | with_reducible refine below_alloc ?_ _ | with_reducible refine Below.alloc ?_ (by first | omega | (simp; done) | (simp; omega)) _ | with_reducible refine Below.setCell ?_ (by first | omega | (simp; done) | (simp; omega)) _ | with_reducible refine below_setRow ?_ (by first | omega | (simp; done) | (simp; omega)) _))⟩
  · go_wp2
    all_goals
      go_ret
      exact ⟨rfl, (by repeat (first | with_reducible assumption | with_reducible exact Below.refl _ _ | with_reducible refine Below.drew ?_ | with_reducible refine below_drewN ?_ _ | with_reducible refine below_alloc ?_ _ | with_reducible refine Below.alloc ?_ (by first | omega | (simp; done) | (simp; omega)) _ | with_reducible refine Below.setCell ?_ (by first | omega | (simp; done) | (simp; omega)) _ | with_reducible refine below_setRow ?_ (by first | omega | (simp; done) | (simp; omega)) _))⟩
set_option maxRecDepth 20000 in
set_option maxHeartbeats 1000000 in
theorem beat_range (B T : Nat) (nm : Option Nat) (v : Value) (m : Option Nat) (L : List Nd) (s : ByteArray) (ep now : Int) (w : World) (h : TabS B w T nm v m L) (hs : s.size ≤ maxLen) (x : Nd) (hA : fnd L (ky s) = some x) (hep : ep = x.epoch) (hlv : x.live = true) (hrg : now < x.seen ∨ 1099511627776 < now) :
    Calls Try.prog 13 #[.pointer (some ⟨T, 0, none⟩), .string s, .int .i64 ep, .int .i64 now] w fun e w' => e = .returned (.int .i64 2) ∧ Below w.heap.size w w' := by
  obtain ⟨nx, ex, ⟨cx0, cx1, cx2, cx3⟩, sx, lx⟩ := x
  have hG : Calls Try.prog 12 #[.pointer (some ⟨T, 0, none⟩), .string s] w fun e w' => e = .returned (.tuple #[.agg #[.string nx, .int .i64 ex, .int .i64 cx0, .int .i64 cx1, .int .i64 cx2, .int .i64 cx3, .int .i64 sx, .bool lx], .int .i64 0]) ∧ Below w.heap.size w w' := by
    have h := getn_any B T nm v m L s w h hs
    rw [show getR L s = (⟨nx, ex, (cx0, cx1, cx2, cx3), sx, lx⟩, 0) by unfold getR; rw [hA]] at h
    exact h
  simp only at hep hlv hrg
  subst hep hlv
  have HST := hid hrg
  clear h hrg
  go_enter Try.func13, Try.ntmps13
  go_wp2_with fail
  refine hG.mono ?_
  rintro e w1 ⟨rfl, hb1⟩
  have hs1 := hb1.size
  by_cases g1 : now < sx
  · go_wp2
    all_goals
      go_ret
      exact ⟨rfl, (by repeat (first | with_reducible assumption | with_reducible exact Below.refl _ _ | with_reducible refine Below.drew ?_ | with_reducible refine below_drewN ?_ _ | with_reducible refine below_alloc ?_ _ | with_reducible refine Below.alloc ?_ (by first | omega | (simp; done) | (simp; omega)) _ | with_reducible refine Below.setCell ?_ (by first | omega | (simp; done) | (simp; omega)) _ | with_reducible refine below_setRow ?_ (by first | omega | (simp; done) | (simp; omega)) _))⟩
  · have g2 : 1099511627776 < now := by
      rcases HST.out with h | h
      · exact absurd h g1
      · exact h
    go_wp2
    all_goals
      go_ret
      exact ⟨rfl, (by repeat (first | with_reducible assumption | with_reducible exact Below.refl _ _ | with_reducible refine Below.drew ?_ | with_reducible refine below_drewN ?_ _ | with_reducible refine below_alloc ?_ _ | with_reducible refine Below.alloc ?_ (by first | omega | (simp; done) | (simp; omega)) _ | with_reducible refine Below.setCell ?_ (by first | omega | (simp; done) | (simp; omega)) _ | with_reducible refine below_setRow ?_ (by first | omega | (simp; done) | (simp; omega)) _))⟩
set_option maxRecDepth 20000 in
set_option maxHeartbeats 1000000 in
theorem beat_ok (B T : Nat) (nm : Option Nat) (v : Value) (m : Option Nat) (L : List Nd) (s : ByteArray) (ep now : Int) (w : World) (h : TabS B w T nm v m L) (hs : s.size ≤ maxLen) (x : Nd) (hA : fnd L (ky s) = some x) (hep : ep = x.epoch) (hlv : x.live = true) (g1 : ¬ now < x.seen) (g2 : ¬ 1099511627776 < now) :
    Calls Try.prog 13 #[.pointer (some ⟨T, 0, none⟩), .string s, .int .i64 ep, .int .i64 now] w fun e w' => e = .returned (.int .i64 0) ∧ TabB B w' T (putN L { x with seen := now }) ∧ Below B w w' ∧ KeptX w w' := by
  obtain ⟨nx, ex, ⟨cx0, cx1, cx2, cx3⟩, sx, lx⟩ := x
  have hG : Calls Try.prog 12 #[.pointer (some ⟨T, 0, none⟩), .string s] w fun e w' => e = .returned (.tuple #[.agg #[.string nx, .int .i64 ex, .int .i64 cx0, .int .i64 cx1, .int .i64 cx2, .int .i64 cx3, .int .i64 sx, .bool lx], .int .i64 0]) ∧ Below w.heap.size w w' := by
    have h := getn_any B T nm v m L s w h hs
    rw [show getR L s = (⟨nx, ex, (cx0, cx1, cx2, cx3), sx, lx⟩, 0) by unfold getR; rw [hA]] at h
    exact h
  simp only at hep hlv g1 ⊢
  subst hep hlv
  obtain rfl : nx = s := bytes_inj (mem_of_fnd hA).2
  have hsx := h.tm _ (mem_of_fnd hA).1
  simp only at hsx
  obtain ⟨b', rfl⟩ : ∃ b', nm = some b' := by
    cases nm with
    | none => exact absurd hA (by rw [show L = [] from h.map]; simp [fnd])
    | some b' => exact ⟨b', rfl⟩
  have HLEN : Hid ((putN L ⟨nx, ep, (cx0, cx1, cx2, cx3), now, true⟩).length ≤ 12) := by
    unfold Hid
    rw [put_length h.ris, hA]
    exact h.len
  have HBL : Hid (B ≤ w.heap.size) := Nat.le_trans h.le (Nat.le_of_lt h.lt)
  have HH := hid h
  have HS := hid hs
  clear h hs
  go_enter Try.func13, Try.ntmps13
  go_wp2_with fail
  refine hG.mono ?_
  rintro e w1 ⟨rfl, hb1⟩
  have hs1 := hb1.size
  go_upto_region 9 with fail
  have hs := HS.out
  refine wp_name ?_
  intro w3 hw3
  have N3 : w3.heap[w1.heap.size]? = some (.cells #[.string nx, .int .i64 ep, .int .i64 cx0, .int .i64 cx1, .int .i64 cx2, .int .i64 cx3, .int .i64 now, .bool true] 34 (0, 0)) := by rw [hw3]; exact at_of (by apply Exists.intro; refine ⟨?_, ?_⟩; (focus ((repeat (first | (with_reducible assumption) | (with_reducible exact alloc_at _ _) | ((with_reducible apply alloc_at'); (simp; done)) | (with_reducible apply alloc_at_lt) | (with_reducible apply heap_drew_at) | (with_reducible apply heap_drewN_at) | (with_reducible apply heap_setCell_same) | ((with_reducible apply heap_set_ne); (first | omega | (dsimp only; omega) | (simp; done) | (simp; omega))) | (with_reducible apply setRow_at) | ((with_reducible apply setRow_ne); (first | omega | (dsimp only; omega) | (simp; done) | (simp; omega))))))); simp)
  have BW3 : Below w.heap.size w w3 := by rw [hw3]; exact (by repeat (first | with_reducible assumption | with_reducible exact Below.refl _ _ | with_reducible refine Below.drew ?_ | with_reducible refine below_drewN ?_ _ | with_reducible refine below_alloc ?_ _ | with_reducible refine Below.alloc ?_ (by first | omega | (simp; done) | (simp; omega)) _ | with_reducible refine Below.setCell ?_ (by first | omega | (simp; done) | (simp; omega)) _ | with_reducible refine below_setRow ?_ (by first | omega | (simp; done) | (simp; omega)) _))
  have HN3 := lt_of_at N3
  have T3 : TabS B w3 T (some b') v m L := HH.out.below BW3
  have HSZ : Hid (w.heap.size ≤ w3.heap.size) := BW3.size
  clear hw3
  obtain ⟨l3c, l3f⟩ := T3.tcell
  have L3 := T3.lt
  have e0 : ∀ lx_ : Lat w3.heap.size w3, lx_.w.cell? ⟨T, 0, none⟩ = some (.map (some b')) := fun lx_ => by rw [lx_.cell _ _ L3]; exact l3c
  have f0 : ∀ lx_ : Lat w3.heap.size w3, lx_.w.cell? ⟨w1.heap.size, 0, none⟩ = some (.string nx) := fun lx_ => by rw [lx_.cell _ _ HN3]; exact (blk_cell N3 0).trans rfl
  have f1 : ∀ lx_ : Lat w3.heap.size w3, lx_.w.cell? ⟨w1.heap.size, 1, none⟩ = some (.int .i64 ep) := fun lx_ => by rw [lx_.cell _ _ HN3]; exact (blk_cell N3 1).trans rfl
  have f2 : ∀ lx_ : Lat w3.heap.size w3, lx_.w.cell? ⟨w1.heap.size, 2, none⟩ = some (.int .i64 cx0) := fun lx_ => by rw [lx_.cell _ _ HN3]; exact (blk_cell N3 2).trans rfl
  have f3 : ∀ lx_ : Lat w3.heap.size w3, lx_.w.cell? ⟨w1.heap.size, 3, none⟩ = some (.int .i64 cx1) := fun lx_ => by rw [lx_.cell _ _ HN3]; exact (blk_cell N3 3).trans rfl
  have f4 : ∀ lx_ : Lat w3.heap.size w3, lx_.w.cell? ⟨w1.heap.size, 4, none⟩ = some (.int .i64 cx2) := fun lx_ => by rw [lx_.cell _ _ HN3]; exact (blk_cell N3 4).trans rfl
  have f5 : ∀ lx_ : Lat w3.heap.size w3, lx_.w.cell? ⟨w1.heap.size, 5, none⟩ = some (.int .i64 cx3) := fun lx_ => by rw [lx_.cell _ _ HN3]; exact (blk_cell N3 5).trans rfl
  have f6 : ∀ lx_ : Lat w3.heap.size w3, lx_.w.cell? ⟨w1.heap.size, 6, none⟩ = some (.int .i64 now) := fun lx_ => by rw [lx_.cell _ _ HN3]; exact (blk_cell N3 6).trans rfl
  have f7 : ∀ lx_ : Lat w3.heap.size w3, lx_.w.cell? ⟨w1.heap.size, 7, none⟩ = some (.bool true) := fun lx_ => by rw [lx_.cell _ _ HN3]; exact (blk_cell N3 7).trans rfl
  refine wp_region_lat_tail 6 (by kernel_rfl) (by kernel_rfl) ?_
  simp only [List.take_succ_cons, List.take_zero, List.drop_succ_cons, List.drop_zero]
  repeat (go_big_quiet_step (fail))
  refine wpQuiet_nil ?_
  rintro w4 ⟨x4, hx4⟩
  have hb4 := x4.h
  rw [← hx4] at hb4
  clear hx4 x4 e0 f0 f1 f2 f3 f4 f5 f6 f7
  have T4 := T3.below hb4
  obtain ⟨w5, hrun, hm5, hg5, hs5⟩ := T4.map.store T4.ris T4.len ⟨nx, ep, (cx0, cx1, cx2, cx3), now, true⟩ hs
  simp only [ndV, cellsN] at hrun
  obtain ⟨l, hc4, hk4⟩ := T4.clk
  have hc5 : Clk B w5 T (.map (some b')) v m l := hc4.at (by omega) (fun k hk => hg5.block k (hc4.foot hk).2 (fun e => T4.nap _ rfl (by cases e; exact hk)))
  have hl0 : setE l nx = 0 := by
    have hl : l.length ≤ 12 := Nat.le_trans (hk4.le hc5.names.2 hc5.names.1) T4.len
    unfold setE
    rw [if_neg (by omega)]
  have HSET := fun t => set_any B T v m l nx t w5 hc5 hs
  rw [hl0] at HSET
  have iw : IntKind.i64.wrap (now + 10) = now + 10 := IntWalk.i64_in _ (by omega)
  have HT4 := hid T4
  have HC5 := hid hc5
  have HK4 := hid hk4
  have HM5 := hid hm5
  have HG5 := hid hg5
  have HB4 := hid hb4
  have T5 := hc5.lt
  have HQ : Hid (0 ≤ now ∧ now ≤ 1099511627776) := by constructor <;> omega
  obtain ⟨l5c, l5f⟩ : w5.cell? ⟨T, 0, none⟩ = some (.map (some b')) ∧ ∀ i, w5.frozen? ⟨T, i, none⟩ = false := by
    obtain ⟨I, q, -⟩ := hc5.st
    exact ⟨(blk_cell q.blk 0).trans rfl, blk_free q.blk⟩
  have HBW := hid BW3
  clear hc5 hk4 hm5 hg5 hb4 T4 T3 hc4 BW3 hl0
  go_wp2_with fail
  refine (HSET _).mono ?_
  rintro e w6 ⟨rfl, hp6⟩
  obtain ⟨h6, hb6, hk6⟩ := HT4.out.put ⟨nx, ep, (cx0, cx1, cx2, cx3), now, true⟩ rfl hs HQ.out.1 HQ.out.2 HLEN.out HK4.out HM5.out HG5.out HC5.out hp6
  have H6 := hid h6
  have HB6 := hid hb6
  have HK6 := hid hk6
  clear h6 hb6 hk6 hp6 HSET
  go_wp2
  all_goals
    go_ret
    refine ⟨rfl, H6.out, ?_, ?_⟩
    · exact (HBW.out.mono HBL.out).trans ((HB4.out.mono (Nat.le_trans HBL.out HSZ.out)).trans HB6.out)
    · exact (KeptX.of_below HBW.out).trans ((KeptX.of_below HB4.out).trans HK6.out)
/-- Beat, whatever comes. -/
theorem beat_any (B T : Nat) (L : List Nd) (s : ByteArray) (ep now : Int) (w : World) (h : TabB B w T L) (hs : s.size ≤ maxLen) :
    Calls Try.prog 13 #[.pointer (some ⟨T, 0, none⟩), .string s, .int .i64 ep, .int .i64 now] w fun e w' => e = .returned (.int .i64 (beatR L s ep now).1) ∧ TabB B w' T (beatR L s ep now).2 ∧ Below B w w' ∧ KeptX w w' := by
  have HH := hid h
  obtain ⟨nm, v, m, h⟩ := h
  have hBL : B ≤ w.heap.size := Nat.le_trans h.le (Nat.le_of_lt h.lt)
  have old : ∀ {w'}, Below w.heap.size w w' → TabB B w' T L ∧ Below B w w' ∧ KeptX w w' := fun hb => ⟨HH.out.below hb, hb.mono hBL, KeptX.of_below hb⟩
  cases hA : fnd L (ky s) with
  | none =>
    rw [beatR_none hA]
    exact (beat_none B T nm v m L s ep now w h hs hA).mono (fun e w' ⟨h1, h2⟩ => ⟨h1, old h2⟩)
  | some x =>
    rw [beatR_some hA]
    by_cases g : ep ≠ x.epoch ∨ x.live = false
    · rw [if_pos g]
      exact (beat_stale B T nm v m L s ep now w h hs x hA g).mono (fun e w' ⟨h1, h2⟩ => ⟨h1, old h2⟩)
    · rw [if_neg g]
      have ge : ep = x.epoch := Classical.byContradiction (fun e => g (.inl e))
      have gl : x.live = true := by cases hl : x.live with | true => rfl | false => exact absurd (.inr hl) g
      by_cases g2 : now < x.seen ∨ 1099511627776 < now
      · rw [if_pos g2]
        exact (beat_range B T nm v m L s ep now w h hs x hA ge gl g2).mono (fun e w' ⟨h1, h2⟩ => ⟨h1, old h2⟩)
      · rw [if_neg g2]
        exact beat_ok B T nm v m L s ep now w h hs x hA ge gl (fun e => g2 (.inl e)) (fun e => g2 (.inr e))
end Go.Proofs.Ytkplhobiciddoaa
