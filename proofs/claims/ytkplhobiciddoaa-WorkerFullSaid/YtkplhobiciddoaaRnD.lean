/- Contracts of the reference's calls of chapter 19: Register, Get, Beat, Live. -/
import Derived.Test.YtkplhobiciddoaaRnC
import Derived.Deep.CutBlock
namespace Go.Proofs.Ytkplhobiciddoaa
open Go.RowKit Go.Maps
theorem rreg_any (B R : Nat) (v : Value) (L : List Nd) (s : ByteArray) (ep a b c d now : Int) (w : World) (hB : B ≤ w.heap.size) (hR : RefN B w R v L) (hm : L.length ≤ 12) (hs : s.size ≤ 281474976710656) (hr : Rising L) :
    Calls Try.prog 33 #[.pointer (some ⟨R, 0, none⟩), .string s, .int .i64 ep, .agg #[.int .i64 a, .int .i64 b, .int .i64 c, .int .i64 d], .int .i64 now] w fun e w' => e = .returned (.tuple #[.bool (regR L s ep (a, b, c, d) now).1, .int .i64 (regR L s ep (a, b, c, d) now).2.1]) ∧ RnPost B w w' R (regR L s ep (a, b, c, d) now).2.2 := by
  by_cases hn : nameB s = false
  · rw [regR_form (.inl hn)]; exact rreg_name B R v L s ep a b c d now w hB hR hm hs hn
  · have hn : nameB s = true := by simpa using hn
    by_cases hv : okV (a, b, c, d) = false
    · rw [regR_form (.inr hv)]; exact rreg_form B R v L s ep a b c d now w hB hR hm hs hn hv
    · have hv : okV (a, b, c, d) = true := by simpa using hv
      by_cases h2 : ep < 1 ∨ 2147483648 ≤ ep ∨ now < 0 ∨ 1099511627776 < now
      · rw [regR_range hn hv h2]; exact rreg_range B R v L s ep a b c d now w hB hR hm hs hn hv h2
      · rw [regR_in hn hv h2]
        have g1 : ¬ ep < 1 := fun h => h2 (.inl h)
        have g2 : ¬ 2147483648 ≤ ep := fun h => h2 (.inr (.inl h))
        have g3 : ¬ now < 0 := fun h => h2 (.inr (.inr (.inl h)))
        have g4 : ¬ 1099511627776 < now := fun h => h2 (.inr (.inr (.inr h)))
        rcases fndI_fnd L s with ⟨hk, hf⟩ | ⟨k, hkl, hk, hf, hnm⟩
        · rw [hf]
          simp only
          by_cases hl : 12 ≤ L.length
          · rw [if_pos hl]; exact rreg_full B R v L s ep a b c d now w hB hR hm hs hn hv g1 g2 g3 g4 hk hl
          · rw [if_neg hl]; exact rreg_new B R v L s ep a b c d now w hB hR hm hs hn hv g1 g2 g3 g4 hr hk (by omega)
        · rw [hf]
          simp only
          by_cases he : ep ≤ L[k].epoch
          · rw [if_pos he]; exact rreg_stale B R v L s ep a b c d now w hB hR hm hs hn hv g1 g2 g3 g4 k hk hkl he
          · rw [if_neg he, put_set hr hkl ⟨s, ep, (a, b, c, d), now, true⟩ hnm]
            exact rreg_old B R v L s ep a b c d now w hB hR hm hs hn hv g1 g2 g3 g4 k hk hkl he
set_option maxRecDepth 20000 in
set_option maxHeartbeats 4000000 in
theorem rget_any (B R : Nat) (v : Value) (L : List Nd) (s : ByteArray) (w : World) (hR : RefN B w R v L) (hm : L.length ≤ 12) :
    Calls Try.prog 37 #[.pointer (some ⟨R, 0, none⟩), .string s] w fun e w' => e = .returned (.tuple #[ndV (getR L s).1, .int .i64 (getR L s).2]) ∧ Below w.heap.size w w' := by
  have HR := hid hR
  have hlR := lt_of_at hR.2.1
  clear hR
  unfold getR
  rcases fndI_fnd L s with ⟨hk, hf⟩ | ⟨k, hkl, hk, hf, hnm⟩
  · rw [hf]
    simp only [ndV, cellsN, zeroN, zeroV]
    go_enter Try.func37, Try.ntmps37
    go_wp2_with fail
    refine (rfind_any B R v L s _ (HR.out.below (by repeat (first | with_reducible assumption | with_reducible exact Below.refl _ _ | with_reducible refine Below.drew ?_ | with_reducible refine below_drewN ?_ _ | with_reducible refine below_alloc ?_ _ | with_reducible refine Below.alloc ?_ (by first | omega | (simp; done) | (simp; omega)) _ | with_reducible refine Below.setCell ?_ (by first | omega | (simp; done) | (simp; omega)) _ | with_reducible refine below_setRow ?_ (by first | omega | (simp; done) | (simp; omega)) _))) (by omega)).mono ?_
    rintro e w3 ⟨rfl, hb3⟩
    have BW : Below w.heap.size w w3 := Below.trans (by repeat (first | with_reducible assumption | with_reducible exact Below.refl _ _ | with_reducible refine Below.drew ?_ | with_reducible refine below_drewN ?_ _ | with_reducible refine below_alloc ?_ _ | with_reducible refine Below.alloc ?_ (by first | omega | (simp; done) | (simp; omega)) _ | with_reducible refine Below.setCell ?_ (by first | omega | (simp; done) | (simp; omega)) _ | with_reducible refine below_setRow ?_ (by first | omega | (simp; done) | (simp; omega)) _)) (hb3.mono (by first | omega | (simp; done) | (simp; omega)))
    have R3 := HR.out.below BW
    have r0 : w3.cell? ⟨R, 0, none⟩ = some v := (blk_cell R3.2.1 0).trans rfl
    have rf := blk_free R3.2.1
    have hlR3 := lt_of_at R3.2.1
    have hlw : w.heap.size < w3.heap.size := by have := hb3.size; simp at this; omega
    have Z3 := below_at hb3 (n := w.heap.size) (by simp) (by (repeat (first | (with_reducible assumption) | (with_reducible exact alloc_at _ _) | ((with_reducible apply alloc_at'); (simp; done)) | (with_reducible apply alloc_at_lt) | (with_reducible apply heap_drew_at) | (with_reducible apply heap_drewN_at) | (with_reducible apply heap_setCell_same) | ((with_reducible apply heap_set_ne); (first | omega | (dsimp only; omega) | (simp; done) | (simp; omega))) | (with_reducible apply setRow_at) | ((with_reducible apply setRow_ne); (first | omega | (dsimp only; omega) | (simp; done) | (simp; omega))))))
    have zf := blk_free Z3
    have z0 : w3.cell? ⟨w.heap.size, 0, none⟩ = some (.string ⟨#[]⟩) := (blk_cell Z3 0).trans rfl
    have z1 : w3.cell? ⟨w.heap.size, 1, none⟩ = some (.int .i64 0) := (blk_cell Z3 1).trans rfl
    have z2 : w3.cell? ⟨w.heap.size, 2, none⟩ = some (.int .i64 0) := (blk_cell Z3 2).trans rfl
    have z3 : w3.cell? ⟨w.heap.size, 3, none⟩ = some (.int .i64 0) := (blk_cell Z3 3).trans rfl
    have z4 : w3.cell? ⟨w.heap.size, 4, none⟩ = some (.int .i64 0) := (blk_cell Z3 4).trans rfl
    have z5 : w3.cell? ⟨w.heap.size, 5, none⟩ = some (.int .i64 0) := (blk_cell Z3 5).trans rfl
    have z6 : w3.cell? ⟨w.heap.size, 6, none⟩ = some (.int .i64 0) := (blk_cell Z3 6).trans rfl
    have z7 : w3.cell? ⟨w.heap.size, 7, none⟩ = some (.bool false) := (blk_cell Z3 7).trans rfl
    clear hb3
    rw [hk]
    clear R3 hf
    go_wp2
    refine ret_row2 rfl w.heap.size #[.string ⟨#[]⟩, .int .i64 0, .int .i64 0, .int .i64 0, .int .i64 0, .int .i64 0, .int .i64 0, .bool false] 34 _ rfl Try.underlying34 rfl infoNode rfl (by apply Exists.intro; refine ⟨?_, ?_⟩; (focus ((repeat (first | (with_reducible assumption) | (with_reducible exact alloc_at _ _) | ((with_reducible apply alloc_at'); (simp; done)) | (with_reducible apply alloc_at_lt) | (with_reducible apply heap_drew_at) | (with_reducible apply heap_drewN_at) | (with_reducible apply heap_setCell_same) | ((with_reducible apply heap_set_ne); (first | omega | (dsimp only; omega) | (simp; done) | (simp; omega))) | (with_reducible apply setRow_at) | ((with_reducible apply setRow_ne); (first | omega | (dsimp only; omega) | (simp; done) | (simp; omega))))))); simp) ⟨rfl, (by repeat (first | with_reducible assumption | with_reducible exact Below.refl _ _ | with_reducible refine Below.drew ?_ | with_reducible refine below_drewN ?_ _ | with_reducible refine below_alloc ?_ _ | with_reducible refine Below.alloc ?_ (by first | omega | (simp; done) | (simp; omega)) _ | with_reducible refine Below.setCell ?_ (by first | omega | (simp; done) | (simp; omega)) _ | with_reducible refine below_setRow ?_ (by first | omega | (simp; done) | (simp; omega)) _))⟩
  · rw [hf]
    obtain ⟨x, hx⟩ : ∃ x, x = L[k] := ⟨_, rfl⟩
    rw [← hx]
    have HX := hid hx
    clear hf hnm
    obtain ⟨x0, x1, ⟨x2, x3, x4, x5⟩, x6, x7⟩ := x
    simp only [ndV, cellsN]
    clear hx
    go_enter Try.func37, Try.ntmps37
    go_wp2_with fail
    refine (rfind_any B R v L s _ (HR.out.below (by repeat (first | with_reducible assumption | with_reducible exact Below.refl _ _ | with_reducible refine Below.drew ?_ | with_reducible refine below_drewN ?_ _ | with_reducible refine below_alloc ?_ _ | with_reducible refine Below.alloc ?_ (by first | omega | (simp; done) | (simp; omega)) _ | with_reducible refine Below.setCell ?_ (by first | omega | (simp; done) | (simp; omega)) _ | with_reducible refine below_setRow ?_ (by first | omega | (simp; done) | (simp; omega)) _))) (by omega)).mono ?_
    rintro e w3 ⟨rfl, hb3⟩
    have BW : Below w.heap.size w w3 := Below.trans (by repeat (first | with_reducible assumption | with_reducible exact Below.refl _ _ | with_reducible refine Below.drew ?_ | with_reducible refine below_drewN ?_ _ | with_reducible refine below_alloc ?_ _ | with_reducible refine Below.alloc ?_ (by first | omega | (simp; done) | (simp; omega)) _ | with_reducible refine Below.setCell ?_ (by first | omega | (simp; done) | (simp; omega)) _ | with_reducible refine below_setRow ?_ (by first | omega | (simp; done) | (simp; omega)) _)) (hb3.mono (by first | omega | (simp; done) | (simp; omega)))
    have R3 := HR.out.below BW
    have r0 : w3.cell? ⟨R, 0, none⟩ = some v := (blk_cell R3.2.1 0).trans rfl
    have rf := blk_free R3.2.1
    have hlR3 := lt_of_at R3.2.1
    have hlw : w.heap.size < w3.heap.size := by have := hb3.size; simp at this; omega
    have Z3 := below_at hb3 (n := w.heap.size) (by simp) (by (repeat (first | (with_reducible assumption) | (with_reducible exact alloc_at _ _) | ((with_reducible apply alloc_at'); (simp; done)) | (with_reducible apply alloc_at_lt) | (with_reducible apply heap_drew_at) | (with_reducible apply heap_drewN_at) | (with_reducible apply heap_setCell_same) | ((with_reducible apply heap_set_ne); (first | omega | (dsimp only; omega) | (simp; done) | (simp; omega))) | (with_reducible apply setRow_at) | ((with_reducible apply setRow_ne); (first | omega | (dsimp only; omega) | (simp; done) | (simp; omega))))))
    have zf := blk_free Z3
    have z0 : w3.cell? ⟨w.heap.size, 0, none⟩ = some (.string ⟨#[]⟩) := (blk_cell Z3 0).trans rfl
    have z1 : w3.cell? ⟨w.heap.size, 1, none⟩ = some (.int .i64 0) := (blk_cell Z3 1).trans rfl
    have z2 : w3.cell? ⟨w.heap.size, 2, none⟩ = some (.int .i64 0) := (blk_cell Z3 2).trans rfl
    have z3 : w3.cell? ⟨w.heap.size, 3, none⟩ = some (.int .i64 0) := (blk_cell Z3 3).trans rfl
    have z4 : w3.cell? ⟨w.heap.size, 4, none⟩ = some (.int .i64 0) := (blk_cell Z3 4).trans rfl
    have z5 : w3.cell? ⟨w.heap.size, 5, none⟩ = some (.int .i64 0) := (blk_cell Z3 5).trans rfl
    have z6 : w3.cell? ⟨w.heap.size, 6, none⟩ = some (.int .i64 0) := (blk_cell Z3 6).trans rfl
    have z7 : w3.cell? ⟨w.heap.size, 7, none⟩ = some (.bool false) := (blk_cell Z3 7).trans rfl
    clear hb3
    rw [hk]
    obtain ⟨g, cap, rfl, hg, hgR, hgl, hgf, hcell⟩ := R3.row (by omega)
    have hcx : ∀ c, c < 8 → w3.cell? ⟨g, k * 8 + c, none⟩ = (cellsN ⟨x0, x1, (x2, x3, x4, x5), x6, x7⟩)[c]? := fun c hc => by rw [HX.out]; exact hcell k hkl c hc
    have q0 : w3.cell? ⟨g, k * 8, none⟩ = some (.string x0) := (hcx 0 (by omega)).trans rfl
    have q1 : w3.cell? ⟨g, k * 8 + 1, none⟩ = some (.int .i64 x1) := (hcx 1 (by omega)).trans rfl
    have q2 : w3.cell? ⟨g, k * 8 + 2, none⟩ = some (.int .i64 x2) := (hcx 2 (by omega)).trans rfl
    have q3 : w3.cell? ⟨g, k * 8 + 3, none⟩ = some (.int .i64 x3) := (hcx 3 (by omega)).trans rfl
    have q4 : w3.cell? ⟨g, k * 8 + 4, none⟩ = some (.int .i64 x4) := (hcx 4 (by omega)).trans rfl
    have q5 : w3.cell? ⟨g, k * 8 + 5, none⟩ = some (.int .i64 x5) := (hcx 5 (by omega)).trans rfl
    have q6 : w3.cell? ⟨g, k * 8 + 6, none⟩ = some (.int .i64 x6) := (hcx 6 (by omega)).trans rfl
    have q7 : w3.cell? ⟨g, k * 8 + 7, none⟩ = some (.bool x7) := (hcx 7 (by omega)).trans rfl
    have kl : (k : Int) < (L.length : Int) := by omega
    clear R3 hcx hcell
    go_wp2
    refine ret_row2 rfl w.heap.size #[.string x0, .int .i64 x1, .int .i64 x2, .int .i64 x3, .int .i64 x4, .int .i64 x5, .int .i64 x6, .bool x7] 34 _ rfl Try.underlying34 rfl infoNode rfl (by apply Exists.intro; refine ⟨?_, ?_⟩; (focus ((repeat (first | (with_reducible assumption) | (with_reducible exact alloc_at _ _) | ((with_reducible apply alloc_at'); (simp; done)) | (with_reducible apply alloc_at_lt) | (with_reducible apply heap_drew_at) | (with_reducible apply heap_drewN_at) | (with_reducible apply heap_setCell_same) | ((with_reducible apply heap_set_ne); (first | omega | (dsimp only; omega) | (simp; done) | (simp; omega))) | (with_reducible apply setRow_at) | ((with_reducible apply setRow_ne); (first | omega | (dsimp only; omega) | (simp; done) | (simp; omega))))))); simp) ⟨rfl, (by repeat (first | with_reducible assumption | with_reducible exact Below.refl _ _ | with_reducible refine Below.drew ?_ | with_reducible refine below_drewN ?_ _ | with_reducible refine below_alloc ?_ _ | with_reducible refine Below.alloc ?_ (by first | omega | (simp; done) | (simp; omega)) _ | with_reducible refine Below.setCell ?_ (by first | omega | (simp; done) | (simp; omega)) _ | with_reducible refine below_setRow ?_ (by first | omega | (simp; done) | (simp; omega)) _))⟩
set_option maxRecDepth 20000 in
set_option maxHeartbeats 4000000 in
theorem rbeat_any (B R : Nat) (v : Value) (L : List Nd) (s : ByteArray) (ep now : Int) (w : World) (hB : B ≤ w.heap.size) (hR : RefN B w R v L) (hm : L.length ≤ 12) (hr : Rising L) :
    Calls Try.prog 34 #[.pointer (some ⟨R, 0, none⟩), .string s, .int .i64 ep, .int .i64 now] w fun e w' => e = .returned (.int .i64 (beatR L s ep now).1) ∧ RnPost B w w' R (beatR L s ep now).2 := by
  have HRI := hid hr
  have HR := hid hR
  have hlR := lt_of_at hR.2.1
  clear hr hR
  rcases fndI_fnd L s with ⟨hk, hf⟩ | ⟨k, hkl, hk, hf, hnm⟩
  · rw [beatR_none hf]
    clear hf
    go_enter Try.func34, Try.ntmps34
    go_wp2_with fail
    refine (rfind_any B R v L s w HR.out (by omega)).mono ?_
    rintro e w3 ⟨rfl, hb3⟩
    rw [hk]
    have R3 := HR.out.below hb3
    have r0 : w3.cell? ⟨R, 0, none⟩ = some v := (blk_cell R3.2.1 0).trans rfl
    have rf := blk_free R3.2.1
    have hlR3 := lt_of_at R3.2.1
    have HB3 := hid hb3
    clear hb3
    clear R3
    go_wp2
    go_ret
    exact ⟨rfl, RnPost.same HR.out hB HB3.out⟩
  · rw [beatR_some hf]
    have HNM := hid hnm
    obtain ⟨x, hx⟩ : ∃ x, x = L[k] := ⟨_, rfl⟩
    rw [← hx]
    have HX := hid hx
    clear hf hnm
    obtain ⟨x0, x1, ⟨x2, x3, x4, x5⟩, x6, x7⟩ := x
    simp only
    clear hx
    by_cases e1 : ep = x1
    · subst e1
      cases x7 with
      | false =>
        rw [if_pos (.inr rfl)]
        go_enter Try.func34, Try.ntmps34
        go_wp2_with fail
        refine (rfind_any B R v L s w HR.out (by omega)).mono ?_
        rintro e w3 ⟨rfl, hb3⟩
        rw [hk]
        have R3 := HR.out.below hb3
        have r0 : w3.cell? ⟨R, 0, none⟩ = some v := (blk_cell R3.2.1 0).trans rfl
        have rf := blk_free R3.2.1
        have hlR3 := lt_of_at R3.2.1
        have HB3 := hid hb3
        clear hb3
        obtain ⟨g, cap, rfl, hg, hgR, hgl, hgf, hcell⟩ := R3.row (by omega)
        have hcx : ∀ c, c < 8 → w3.cell? ⟨g, k * 8 + c, none⟩ = (cellsN ⟨x0, ep, (x2, x3, x4, x5), x6, false⟩)[c]? := fun c hc => by rw [HX.out]; exact hcell k hkl c hc
        have q0 : w3.cell? ⟨g, k * 8, none⟩ = some (.string x0) := (hcx 0 (by omega)).trans rfl
        have q1 : w3.cell? ⟨g, k * 8 + 1, none⟩ = some (.int .i64 ep) := (hcx 1 (by omega)).trans rfl
        have q2 : w3.cell? ⟨g, k * 8 + 2, none⟩ = some (.int .i64 x2) := (hcx 2 (by omega)).trans rfl
        have q3 : w3.cell? ⟨g, k * 8 + 3, none⟩ = some (.int .i64 x3) := (hcx 3 (by omega)).trans rfl
        have q4 : w3.cell? ⟨g, k * 8 + 4, none⟩ = some (.int .i64 x4) := (hcx 4 (by omega)).trans rfl
        have q5 : w3.cell? ⟨g, k * 8 + 5, none⟩ = some (.int .i64 x5) := (hcx 5 (by omega)).trans rfl
        have q6 : w3.cell? ⟨g, k * 8 + 6, none⟩ = some (.int .i64 x6) := (hcx 6 (by omega)).trans rfl
        have q7 : w3.cell? ⟨g, k * 8 + 7, none⟩ = some (.bool false) := (hcx 7 (by omega)).trans rfl
        have kl : (k : Int) < (L.length : Int) := by omega
        have H3 := hid R3
        clear R3 hcx hcell
        go_wp2
        go_ret
        exact ⟨rfl, RnPost.same HR.out hB HB3.out⟩
      | true =>
        rw [if_neg (by simp)]
        by_cases e2 : now < x6
        · rw [if_pos (.inl e2)]
          go_enter Try.func34, Try.ntmps34
          go_wp2_with fail
          refine (rfind_any B R v L s w HR.out (by omega)).mono ?_
          rintro e w3 ⟨rfl, hb3⟩
          rw [hk]
          have R3 := HR.out.below hb3
          have r0 : w3.cell? ⟨R, 0, none⟩ = some v := (blk_cell R3.2.1 0).trans rfl
          have rf := blk_free R3.2.1
          have hlR3 := lt_of_at R3.2.1
          have HB3 := hid hb3
          clear hb3
          obtain ⟨g, cap, rfl, hg, hgR, hgl, hgf, hcell⟩ := R3.row (by omega)
          have hcx : ∀ c, c < 8 → w3.cell? ⟨g, k * 8 + c, none⟩ = (cellsN ⟨x0, ep, (x2, x3, x4, x5), x6, true⟩)[c]? := fun c hc => by rw [HX.out]; exact hcell k hkl c hc
          have q0 : w3.cell? ⟨g, k * 8, none⟩ = some (.string x0) := (hcx 0 (by omega)).trans rfl
          have q1 : w3.cell? ⟨g, k * 8 + 1, none⟩ = some (.int .i64 ep) := (hcx 1 (by omega)).trans rfl
          have q2 : w3.cell? ⟨g, k * 8 + 2, none⟩ = some (.int .i64 x2) := (hcx 2 (by omega)).trans rfl
          have q3 : w3.cell? ⟨g, k * 8 + 3, none⟩ = some (.int .i64 x3) := (hcx 3 (by omega)).trans rfl
          have q4 : w3.cell? ⟨g, k * 8 + 4, none⟩ = some (.int .i64 x4) := (hcx 4 (by omega)).trans rfl
          have q5 : w3.cell? ⟨g, k * 8 + 5, none⟩ = some (.int .i64 x5) := (hcx 5 (by omega)).trans rfl
          have q6 : w3.cell? ⟨g, k * 8 + 6, none⟩ = some (.int .i64 x6) := (hcx 6 (by omega)).trans rfl
          have q7 : w3.cell? ⟨g, k * 8 + 7, none⟩ = some (.bool true) := (hcx 7 (by omega)).trans rfl
          have kl : (k : Int) < (L.length : Int) := by omega
          have H3 := hid R3
          clear R3 hcx hcell
          go_wp2
          go_ret
          exact ⟨rfl, RnPost.same HR.out hB HB3.out⟩
        · by_cases e3 : 1099511627776 < now
          · rw [if_pos (.inr e3)]
            go_enter Try.func34, Try.ntmps34
            go_wp2_with fail
            refine (rfind_any B R v L s w HR.out (by omega)).mono ?_
            rintro e w3 ⟨rfl, hb3⟩
            rw [hk]
            have R3 := HR.out.below hb3
            have r0 : w3.cell? ⟨R, 0, none⟩ = some v := (blk_cell R3.2.1 0).trans rfl
            have rf := blk_free R3.2.1
            have hlR3 := lt_of_at R3.2.1
            have HB3 := hid hb3
            clear hb3
            obtain ⟨g, cap, rfl, hg, hgR, hgl, hgf, hcell⟩ := R3.row (by omega)
            have hcx : ∀ c, c < 8 → w3.cell? ⟨g, k * 8 + c, none⟩ = (cellsN ⟨x0, ep, (x2, x3, x4, x5), x6, true⟩)[c]? := fun c hc => by rw [HX.out]; exact hcell k hkl c hc
            have q0 : w3.cell? ⟨g, k * 8, none⟩ = some (.string x0) := (hcx 0 (by omega)).trans rfl
            have q1 : w3.cell? ⟨g, k * 8 + 1, none⟩ = some (.int .i64 ep) := (hcx 1 (by omega)).trans rfl
            have q2 : w3.cell? ⟨g, k * 8 + 2, none⟩ = some (.int .i64 x2) := (hcx 2 (by omega)).trans rfl
            have q3 : w3.cell? ⟨g, k * 8 + 3, none⟩ = some (.int .i64 x3) := (hcx 3 (by omega)).trans rfl
            have q4 : w3.cell? ⟨g, k * 8 + 4, none⟩ = some (.int .i64 x4) := (hcx 4 (by omega)).trans rfl
            have q5 : w3.cell? ⟨g, k * 8 + 5, none⟩ = some (.int .i64 x5) := (hcx 5 (by omega)).trans rfl
            have q6 : w3.cell? ⟨g, k * 8 + 6, none⟩ = some (.int .i64 x6) := (hcx 6 (by omega)).trans rfl
            have q7 : w3.cell? ⟨g, k * 8 + 7, none⟩ = some (.bool true) := (hcx 7 (by omega)).trans rfl
            have kl : (k : Int) < (L.length : Int) := by omega
            have H3 := hid R3
            clear R3 hcx hcell
            go_wp2
            go_ret
            exact ⟨rfl, RnPost.same HR.out hB HB3.out⟩
          · rw [if_neg (fun h => h.elim e2 e3)]
            have hput : putN L ⟨x0, ep, (x2, x3, x4, x5), now, true⟩ = L.set k ⟨x0, ep, (x2, x3, x4, x5), now, true⟩ := put_set HRI.out hkl _ (by rw [← HX.out])
            have HPT := hid hput
            clear hput
            go_enter Try.func34, Try.ntmps34
            go_wp2_with fail
            refine (rfind_any B R v L s w HR.out (by omega)).mono ?_
            rintro e w3 ⟨rfl, hb3⟩
            rw [hk]
            have R3 := HR.out.below hb3
            have r0 : w3.cell? ⟨R, 0, none⟩ = some v := (blk_cell R3.2.1 0).trans rfl
            have rf := blk_free R3.2.1
            have hlR3 := lt_of_at R3.2.1
            have HB3 := hid hb3
            clear hb3
            obtain ⟨g, cap, rfl, hg, hgR, hgl, hgf, hcell⟩ := R3.row (by omega)
            have hcx : ∀ c, c < 8 → w3.cell? ⟨g, k * 8 + c, none⟩ = (cellsN ⟨x0, ep, (x2, x3, x4, x5), x6, true⟩)[c]? := fun c hc => by rw [HX.out]; exact hcell k hkl c hc
            have q0 : w3.cell? ⟨g, k * 8, none⟩ = some (.string x0) := (hcx 0 (by omega)).trans rfl
            have q1 : w3.cell? ⟨g, k * 8 + 1, none⟩ = some (.int .i64 ep) := (hcx 1 (by omega)).trans rfl
            have q2 : w3.cell? ⟨g, k * 8 + 2, none⟩ = some (.int .i64 x2) := (hcx 2 (by omega)).trans rfl
            have q3 : w3.cell? ⟨g, k * 8 + 3, none⟩ = some (.int .i64 x3) := (hcx 3 (by omega)).trans rfl
            have q4 : w3.cell? ⟨g, k * 8 + 4, none⟩ = some (.int .i64 x4) := (hcx 4 (by omega)).trans rfl
            have q5 : w3.cell? ⟨g, k * 8 + 5, none⟩ = some (.int .i64 x5) := (hcx 5 (by omega)).trans rfl
            have q6 : w3.cell? ⟨g, k * 8 + 6, none⟩ = some (.int .i64 x6) := (hcx 6 (by omega)).trans rfl
            have q7 : w3.cell? ⟨g, k * 8 + 7, none⟩ = some (.bool true) := (hcx 7 (by omega)).trans rfl
            have kl : (k : Int) < (L.length : Int) := by omega
            have H3 := hid R3
            clear R3 hcx hcell
            go_wp2
            go_ret
            obtain ⟨r, kt, bl⟩ := rn_set H3.out hgR hkl (c := 6) (by omega) ⟨x0, ep, (x2, x3, x4, x5), now, true⟩ (.int .i64 now) (by rw [← HX.out]; rfl)
            rw [← HPT.out] at r
            exact ⟨rfl, ⟨_, r⟩, (HB3.out.mono hB).trans bl, (keptR_below HB3.out).trans kt⟩
    · rw [if_pos (.inl e1)]
      have e1' : ¬ x1 = ep := fun h => e1 h.symm
      go_enter Try.func34, Try.ntmps34
      go_wp2_with fail
      refine (rfind_any B R v L s w HR.out (by omega)).mono ?_
      rintro e w3 ⟨rfl, hb3⟩
      rw [hk]
      have R3 := HR.out.below hb3
      have r0 : w3.cell? ⟨R, 0, none⟩ = some v := (blk_cell R3.2.1 0).trans rfl
      have rf := blk_free R3.2.1
      have hlR3 := lt_of_at R3.2.1
      have HB3 := hid hb3
      clear hb3
      obtain ⟨g, cap, rfl, hg, hgR, hgl, hgf, hcell⟩ := R3.row (by omega)
      have hcx : ∀ c, c < 8 → w3.cell? ⟨g, k * 8 + c, none⟩ = (cellsN ⟨x0, x1, (x2, x3, x4, x5), x6, x7⟩)[c]? := fun c hc => by rw [HX.out]; exact hcell k hkl c hc
      have q0 : w3.cell? ⟨g, k * 8, none⟩ = some (.string x0) := (hcx 0 (by omega)).trans rfl
      have q1 : w3.cell? ⟨g, k * 8 + 1, none⟩ = some (.int .i64 x1) := (hcx 1 (by omega)).trans rfl
      have q2 : w3.cell? ⟨g, k * 8 + 2, none⟩ = some (.int .i64 x2) := (hcx 2 (by omega)).trans rfl
      have q3 : w3.cell? ⟨g, k * 8 + 3, none⟩ = some (.int .i64 x3) := (hcx 3 (by omega)).trans rfl
      have q4 : w3.cell? ⟨g, k * 8 + 4, none⟩ = some (.int .i64 x4) := (hcx 4 (by omega)).trans rfl
      have q5 : w3.cell? ⟨g, k * 8 + 5, none⟩ = some (.int .i64 x5) := (hcx 5 (by omega)).trans rfl
      have q6 : w3.cell? ⟨g, k * 8 + 6, none⟩ = some (.int .i64 x6) := (hcx 6 (by omega)).trans rfl
      have q7 : w3.cell? ⟨g, k * 8 + 7, none⟩ = some (.bool x7) := (hcx 7 (by omega)).trans rfl
      have kl : (k : Int) < (L.length : Int) := by omega
      have H3 := hid R3
      clear R3 hcx hcell
      go_wp2
      go_ret
      exact ⟨rfl, RnPost.same HR.out hB HB3.out⟩
theorem app_nd {W : World} {base n : Nat} {v : Value} {l : List Nd} (hown : W.ownsRow base 34 8 v n (flatN l)) (hm : n ≤ 1000) (hbase : base ≤ W.heap.size) (x : Nd) :
    ∃ v' w', (Builtin.append_ #[44, 44] 44 #[v, .slice (some ⟨W.heap.size, 0, none⟩) 1 1]).run Try.prog (W.alloc (.cells (cellsN x).toArray 34)) = .ok v' w' ∧
      w'.ownsRow base 34 8 v' (n + 1) (flatN (l ++ [x])) ∧ (W.alloc (.cells (cellsN x).toArray 34)).grownBy w' v.ownBlock := by
  obtain ⟨i0, hi, hz0, hz1, hz2⟩ := info_parts infoNdR
  obtain ⟨v', w', h1, h2, h3, -⟩ := run_append_own (P := Try.prog) (W.alloc (.cells (cellsN x).toArray 34)) base 44 44 34 i0 _ 8 72 Try.underlying44 hi hz0 hz1 hz2 rfl (by omega) v n (flatN l) (hown.alloc _)
    ⟨W.heap.size, 0, none⟩ 1 1 (cellsN x) rfl (World.news_of_block (alloc_at _ _)) (cellsN_one x) (by unfold maxLen; omega) (by omega) (by simp; omega)
  exact ⟨v', w', h1, by rw [flatN_append]; simpa [flatN] using h2, h3⟩
set_option maxRecDepth 20000 in
set_option maxHeartbeats 4000000 in
theorem rlive_any (B R : Nat) (v : Value) (L : List Nd) (w : World) (hR : RefN B w R v L) (hm : L.length ≤ 12) :
    Calls Try.prog 19 #[.pointer (some ⟨R, 0, none⟩)] w fun e w' => ∃ v, e = .returned v ∧ w'.ownsRow w.heap.size 34 8 v (lives L).length (flatN (lives L)) ∧ Below w.heap.size w w' := by
  have HR := hid hR
  have hlR := lt_of_at hR.2.1
  obtain ⟨A, cap, rfl⟩ := rn_slice hR
  have r0 : w.cell? ⟨R, 0, none⟩ = some (.slice A L.length cap) := (blk_cell hR.2.1 0).trans rfl
  clear hR
  obtain ⟨n, hn⟩ : ∃ n, n = L.length := ⟨_, rfl⟩
  have HN := hid hn
  rw [← hn] at r0 hm
  clear hn
  go_enter Try.func19, Try.ntmps19
  go_wp2_with fail
  go_loopw [3, 4] (fun s3 i wr => ∃ (k : Nat) (v3 : Value), k ≤ n ∧ v3 = s3 ∧ i = .int .i64 k ∧ Hid (wr.ownsRow w.heap.size 34 8 v3 (lives (L.take k)).length (flatN (lives (L.take k)))) ∧ Hid (Below w.heap.size w wr)) (fun _ i _ => n - (intOf i).toNat)
  case atStart => exact ⟨0, _, Nat.zero_le _, rfl, rfl, by unfold Hid; rw [List.take_zero]; exact World.ownsRow_nil _ _ _ _, Below.refl _ _⟩
  case round =>
    obtain ⟨k, v3, hkn, rfl, rfl, HO, HB⟩ := hrel
    have r1 : wr.cell? ⟨R, 0, none⟩ = some (.slice A n cap) := (HB.out.cell (p := ⟨R, 0, none⟩) hlR).trans r0
    have hlr : R < wr.heap.size := Nat.lt_of_lt_of_le hlR HB.out.size
    by_cases hkn2 : k < n
    · have hkl : k < L.length := by have := HN.out; omega
      have R3 := HR.out.below HB.out
      obtain ⟨g, cap', e', hg, hgR, hgl, hgf, hcell⟩ := R3.row (by omega)
      rw [← HN.out] at e'
      cases e'
      obtain ⟨x, hx⟩ : ∃ x, x = L[k] := ⟨_, rfl⟩
      have hcx : ∀ c, c < 8 → wr.cell? ⟨g, k * 8 + c, none⟩ = (cellsN x)[c]? := fun c hc => by rw [hx]; exact hcell k hkl c hc
      have HX := hid hx
      clear hcell hx
      obtain ⟨x0, x1, ⟨x2, x3, x4, x5⟩, x6, x7⟩ := x
      have q0 : wr.cell? ⟨g, k * 8, none⟩ = some (.string x0) := (hcx 0 (by omega)).trans rfl
      have q1 : wr.cell? ⟨g, k * 8 + 1, none⟩ = some (.int .i64 x1) := (hcx 1 (by omega)).trans rfl
      have q2 : wr.cell? ⟨g, k * 8 + 2, none⟩ = some (.int .i64 x2) := (hcx 2 (by omega)).trans rfl
      have q3 : wr.cell? ⟨g, k * 8 + 3, none⟩ = some (.int .i64 x3) := (hcx 3 (by omega)).trans rfl
      have q4 : wr.cell? ⟨g, k * 8 + 4, none⟩ = some (.int .i64 x4) := (hcx 4 (by omega)).trans rfl
      have q5 : wr.cell? ⟨g, k * 8 + 5, none⟩ = some (.int .i64 x5) := (hcx 5 (by omega)).trans rfl
      have q6 : wr.cell? ⟨g, k * 8 + 6, none⟩ = some (.int .i64 x6) := (hcx 6 (by omega)).trans rfl
      have q7 : wr.cell? ⟨g, k * 8 + 7, none⟩ = some (.bool x7) := (hcx 7 (by omega)).trans rfl
      clear hcx
      have HLV : Hid (lives (L.take (k + 1)) = lives (L.take k) ++ if x7 = true then [⟨x0, x1, (x2, x3, x4, x5), x6, x7⟩] else []) := by
        unfold Hid
        rw [lives_take hkl, ← HX.out]
      have HK1 : Hid (k + 1 ≤ n) := hkn2
      have HM1 : Hid (n - (k + 1) < n - k) := by unfold Hid; omega
      have kl : (k : Int) < (n : Int) := by omega
      have hle : Hid ((lives (L.take k)).length ≤ 12) := by unfold Hid; refine Nat.le_trans (List.length_filter_le _ _) ?_; rw [List.length_take]; have := HN.out; omega
      clear R3 hkn
      cases x7 with
      | false =>
        go_wp2
        go_roundw
        case rel => exact ⟨k + 1, v3, HK1.out, rfl, by go_num, by unfold Hid; rw [HLV.out]; simpa using HO.out, HB⟩
        case measure => have := HM1.out; simp [intOf]; omega
      | true =>
        obtain ⟨A3, cap3, hv3⟩ := rowN_slice HO.out
        obtain ⟨m3, hm3⟩ : ∃ m3, m3 = (lives (L.take k)).length := ⟨_, rfl⟩
        rw [← hm3] at hv3
        have ho := HO.out
        rw [← hm3] at ho
        subst hv3
        obtain ⟨v8, w8, happ, hown8, hg8⟩ := app_nd ho (by have := hle.out; omega) HB.out.size ⟨x0, x1, (x2, x3, x4, x5), x6, true⟩
        have HAPP := hid happ
        have HN8 : Hid (w8.ownsRow w.heap.size 34 8 v8 (lives (L.take (k + 1))).length (flatN (lives (L.take (k + 1))))) := by
          unfold Hid
          rw [HLV.out, if_pos rfl, List.length_append, ← hm3]
          exact hown8
        have HB8 : Hid (Below w.heap.size w w8) := (HB.out.alloc HB.out.size _).grown hg8 (by have := HB.out.size; simp; omega) (fun j e => (ho.lt j e).1)
        clear happ hown8 hg8 hm3 ho
        go_wp2_with (first | (at_builtin; refine wpList_append_eq rfl _ _ _ rfl rfl rfl HAPP.out ?_))
        go_roundw
        case rel => exact ⟨k + 1, v8, HK1.out, rfl, by go_num, HN8, HB8⟩
        case measure => have := HM1.out; simp [intOf]; omega
    · obtain rfl : k = n := by omega
      have HF : Hid (wr.ownsRow w.heap.size 34 8 v3 (lives L).length (flatN (lives L))) := by
        have := HO.out
        rwa [HN.out, List.take_length] at this
      go_wp2
      go_ret
      exact ⟨_, rfl, HF.out, HB.out⟩
end Go.Proofs.Ytkplhobiciddoaa
