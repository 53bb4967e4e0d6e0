/- Chapter 20: the reader's command, kind by kind (but submit). -/
import Derived.Test.YtidcbcljeofooaaGreatDoorOrV
namespace Go.Proofs.YtidcbcljeofooaaGreatDoor
open Go.RowKit
section
attribute [local go_sem ↓] zeroCmd buildCmd0 cmB_kind
set_option maxHeartbeats 8000000 in
set_option maxRecDepth 20000 in
theorem command_6 {w : World} {R b off n cap : Nat} {ws : List ByteArray} (bad : Bool) (hR : w.heap[R]? = some (.cells #[.bool bad] 63 (0, 0))) (hW : Wds w R b off n ws) (hn : n = 3) :
    Calls Tryz.prog 25 #[.pointer (some ⟨R, 0, none⟩), .int .i64 6, .slice (some ⟨b, off, none⟩) n cap] w (ComQ R bad 6 ws w) := by
  subst hn
  have HR := hid hR
  have HW := hid hW
  clear hR hW
  have hlr : R < w.heap.size := lt_of_at HR.out
  have hA : ((w.alloc (.cells (cmB cm0 s0) 33)).alloc (.cells (cmB cm0 s0) 33)).heap[w.heap.size + 1]? = some (.cells (cmB cm0 s0) 33 (0, 0)) := (by (repeat (first | (with_reducible assumption) | (with_reducible exact alloc_at _ _) | ((with_reducible apply alloc_at'); (simp; done)) | (with_reducible apply alloc_at_lt) | (with_reducible apply heap_drew_at) | (with_reducible apply heap_drewN_at) | (with_reducible apply heap_setCell_same) | ((with_reducible apply heap_set_ne); (first | omega | (dsimp only; omega) | (simp; done) | (simp; omega))) | (with_reducible apply setRow_at) | ((with_reducible apply setRow_ne); (first | omega | (dsimp only; omega) | (simp; done) | (simp; omega))))))
  have hne := cmB_ne cm0 s0
  obtain ⟨x1, hx1⟩ : ∃ x, x = wd ws 1 := ⟨_, rfl⟩
  obtain ⟨x2, hx2⟩ : ∃ x, x = wd ws 2 := ⟨_, rfl⟩
  have KW : ∀ b2 X, Rdr R b2 w X → X.cell? ⟨b, off + 1, none⟩ = some (.string x1) ∧ X.cell? ⟨b, off + 2, none⟩ = some (.string x2) := fun b2 X h => ⟨(by rw [hx1]; exact HW.out.at_ h (by omega)), (by rw [hx2]; exact HW.out.at_ h (by omega))⟩
  have hs2 : x2.size ≤ 100000 := by rw [hx2]; exact HW.out.sm (by omega)
  have HKW := hid KW
  clear KW
  have HX : Hid (x1 = wd ws 1 ∧ x2 = wd ws 2) := ⟨hx1, hx2⟩
  clear hx1 hx2
  go_enter Tryz.func25, Tryz.ntmps25
  go_upto_region 18 with (first | (refine wpList_store_row rfl 33 (.tmp 7) (.tmp 11) rfl (w.heap.size + 1) (cmB (cmK 6) s0) (by simp [Act.eval]) (by simp [Act.eval]) _ _ hA (infoC' _ _) (cmB_sizes _ _ _ _) (cmB_ones _ _) ?_))
  refine wp_name ?_
  intro wr hwr
  have Cr : wr.heap[w.heap.size + 1]? = some (.cells (cmB (cmK 6) s0) 33 (0, 0)) := by
    rw [hwr]; exact setRow_at hA _
  have Or : wr.heap[w.heap.size]? = some (.cells (cmB cm0 s0) 33 (0, 0)) := by
    rw [hwr]; refine setRow_ne (by omega) ?_ _; exact (by (repeat (first | (with_reducible assumption) | (with_reducible exact alloc_at _ _) | ((with_reducible apply alloc_at'); (simp; done)) | (with_reducible apply alloc_at_lt) | (with_reducible apply heap_drew_at) | (with_reducible apply heap_drewN_at) | (with_reducible apply heap_setCell_same) | ((with_reducible apply heap_set_ne); (first | omega | (dsimp only; omega) | (simp; done) | (simp; omega))) | (with_reducible apply setRow_at) | ((with_reducible apply setRow_ne); (first | omega | (dsimp only; omega) | (simp; done) | (simp; omega))))))
  have Br : Below w.heap.size w wr := by
    rw [hwr]; exact (by repeat (first | with_reducible assumption | with_reducible exact Below.refl _ _ | with_reducible refine Below.drew ?_ | with_reducible refine below_drewN ?_ _ | with_reducible refine below_alloc ?_ _ | with_reducible refine Below.alloc ?_ (by first | omega | (simp; done) | (simp; omega)) _ | with_reducible refine Below.setCell ?_ (by first | omega | (simp; done) | (simp; omega)) _ | with_reducible refine below_setRow ?_ (by first | omega | (simp; done) | (simp; omega)) _))
  have Dr : Rdr R bad w wr := rdr_below Br ((Br.block R hlr).trans HR.out)
  have Dr0 := hid Dr.drew
  have Cr0 : wr.drew.heap[w.heap.size + 1]? = some (.cells (cmB (cmK 6) s0) 33 (0, 0)) := Cr
  have Or0 : wr.drew.heap[w.heap.size]? = some (.cells (cmB cm0 s0) 33 (0, 0)) := Or
  have hk1 : w.heap.size + 1 ≠ R := by omega
  have hk0 : w.heap.size ≠ R := by omega
  clear hwr hA Br Cr Or
  obtain ⟨l1, l2⟩ := HKW.out _ _ Dr
  obtain ⟨ld1, ld2⟩ := HKW.out _ _ Dr0.out
  clear Dr
  go_region_held3 (fun X => X.cell? ⟨b, off + 1, none⟩ = some (.string x1) ∧ X.cell? ⟨b, off + 2, none⟩ = some (.string x2)) (first | (((refine ⟨?_, ?_⟩)) <;> with_reducible assumption) | (with_reducible refine HKW.out _ _ (Rdr.on D4.out hlr ?_); exact (by repeat (first | with_reducible assumption | with_reducible exact Below.refl _ _ | with_reducible refine Below.drew ?_ | with_reducible refine below_drewN ?_ _ | with_reducible refine Below.alloc ?_ (by first | omega | (simp; done) | (simp; omega)) _ | with_reducible refine Below.setCell ?_ (by first | omega | (simp; done) | (simp; omega)) _ | with_reducible refine below_setRow ?_ (by first | omega | (simp; done) | (simp; omega)) _)))) (first | (go_at_call_of 54 (Value.string x2); refine (number1 Dr0.out.1 hs2).mono ?_; rintro e w4 ⟨n4, rfl, hn4, hr4⟩; have D4 := hid (Dr0.out.trans hr4); have C4 := hr4.blk Cr0 hk1; have O4 := hr4.blk Or0 hk0; have a4 := blk_free C4; obtain ⟨l4_1, l4_2⟩ := HKW.out _ _ D4.out; have y18 : w4.cell? ⟨w.heap.size + 1, 18, none⟩ = some (.string ⟨#[]⟩) := (cmB_cell C4 18).trans (cm_at18 _ _); have y19 : w4.cell? ⟨w.heap.size + 1, 19, none⟩ = some (.int .i64 0) := (cmB_cell C4 19).trans (cm_at19 _ _)))
  have CY : ((w4.setCell ⟨w.heap.size + 1, 18, none⟩ (.string x1)).setCell ⟨w.heap.size + 1, 19, none⟩ (.int .i64 n4)).heap[w.heap.size + 1]? = some (.cells (cmB { cmK 6 with node := x1, ep := n4 } s0) 33 (0, 0)) := (cm_put19 (cm_put18 C4 _) _)
  have OY : ((w4.setCell ⟨w.heap.size + 1, 18, none⟩ (.string x1)).setCell ⟨w.heap.size + 1, 19, none⟩ (.int .i64 n4)).heap[w.heap.size]? = some (.cells (cmB cm0 s0) 33 (0, 0)) := by
    have h0 := O4
    exact (by (repeat (first | (with_reducible assumption) | (with_reducible exact alloc_at _ _) | ((with_reducible apply alloc_at'); (simp; done)) | (with_reducible apply alloc_at_lt) | (with_reducible apply heap_drew_at) | (with_reducible apply heap_drewN_at) | (with_reducible apply heap_setCell_same) | ((with_reducible apply heap_set_ne); (first | omega | (dsimp only; omega) | (simp; done) | (simp; omega))) | (with_reducible apply setRow_at) | ((with_reducible apply setRow_ne); (first | omega | (dsimp only; omega) | (simp; done) | (simp; omega))))))
  have BY : Below w.heap.size w4 (((w4.setCell ⟨w.heap.size + 1, 18, none⟩ (.string x1)).setCell ⟨w.heap.size + 1, 19, none⟩ (.int .i64 n4)).setRow w.heap.size (cmB { cmK 6 with node := x1, ep := n4 } s0)) := (by repeat (first | with_reducible assumption | with_reducible exact Below.refl _ _ | with_reducible refine Below.drew ?_ | with_reducible refine below_drewN ?_ _ | with_reducible refine Below.alloc ?_ (by first | omega | (simp; done) | (simp; omega)) _ | with_reducible refine Below.setCell ?_ (by first | omega | (simp; done) | (simp; omega)) _ | with_reducible refine below_setRow ?_ (by first | omega | (simp; done) | (simp; omega)) _))
  have FIN : Hid (ComQ R bad 6 ws w (.returned (.agg (cmB { cmK 6 with node := x1, ep := n4 } s0))) (((w4.setCell ⟨w.heap.size + 1, 18, none⟩ (.string x1)).setCell ⟨w.heap.size + 1, 19, none⟩ (.int .i64 n4)).setRow w.heap.size (cmB { cmK 6 with node := x1, ep := n4 } s0))) := by
    have hD := D4.out.on hlr BY
    obtain ⟨rfl, rfl⟩ := HX.out
    refine comQ_ok ?_ ?_
    · rw [cmdP_6]
      revert hD
      cases numP (wl ws 2) <;> intro hD <;> simpa using hD
    · intro c hc
      rw [cmdP_6] at hc
      cases q2 : numP (wl ws 2) with
      | none => rw [q2] at hc; cases hc
      | some m2 =>
        rw [q2] at hc
        replace hc := Option.some.inj hc
        have z2 := hn4 m2 q2
        subst z2
        subst hc
        exact ⟨rfl, sl4_nil _ _ _ rfl rfl rfl rfl⟩
  clear HKW HX hn4 hr4 D4
  go_wp2_with (first | (refine wpList_load_row rfl 33 (.tmp 7) rfl (w.heap.size + 1) (by simp [Act.eval, Act.put]) _ _ _ _ CY Tryz.underlying33 rfl (infoC' _ _) ?_) | (refine wpList_store_row rfl 33 (.tmp 6) (.tmp 139) rfl w.heap.size (cmB { cmK 6 with node := x1, ep := n4 } s0) (by simp [Act.eval, Act.put]) (by simp [Act.eval, Act.put]) _ _ OY (infoC' _ _) (cmB_sizes _ _ _ _) (cmB_ones _ _) ?_))
  refine ret_row1 rfl w.heap.size (cmB { cmK 6 with node := x1, ep := n4 } s0) 33 _ rfl Tryz.underlying33 rfl (infoC' _ _) rfl ⟨_, setRow_at OY _, rfl⟩ FIN.out
set_option maxHeartbeats 8000000 in
set_option maxRecDepth 20000 in
theorem command_5 {w : World} {R b off n cap : Nat} {ws : List ByteArray} (bad : Bool) (hR : w.heap[R]? = some (.cells #[.bool bad] 63 (0, 0))) (hW : Wds w R b off n ws) (hn : n = 4) :
    Calls Tryz.prog 25 #[.pointer (some ⟨R, 0, none⟩), .int .i64 5, .slice (some ⟨b, off, none⟩) n cap] w (ComQ R bad 5 ws w) := by
  subst hn
  have HR := hid hR
  have HW := hid hW
  clear hR hW
  have hlr : R < w.heap.size := lt_of_at HR.out
  have hA : ((w.alloc (.cells (cmB cm0 s0) 33)).alloc (.cells (cmB cm0 s0) 33)).heap[w.heap.size + 1]? = some (.cells (cmB cm0 s0) 33 (0, 0)) := (by (repeat (first | (with_reducible assumption) | (with_reducible exact alloc_at _ _) | ((with_reducible apply alloc_at'); (simp; done)) | (with_reducible apply alloc_at_lt) | (with_reducible apply heap_drew_at) | (with_reducible apply heap_drewN_at) | (with_reducible apply heap_setCell_same) | ((with_reducible apply heap_set_ne); (first | omega | (dsimp only; omega) | (simp; done) | (simp; omega))) | (with_reducible apply setRow_at) | ((with_reducible apply setRow_ne); (first | omega | (dsimp only; omega) | (simp; done) | (simp; omega))))))
  have hne := cmB_ne cm0 s0
  obtain ⟨x1, hx1⟩ : ∃ x, x = wd ws 1 := ⟨_, rfl⟩
  obtain ⟨x2, hx2⟩ : ∃ x, x = wd ws 2 := ⟨_, rfl⟩
  obtain ⟨x3, hx3⟩ : ∃ x, x = wd ws 3 := ⟨_, rfl⟩
  have KW : ∀ b2 X, Rdr R b2 w X → X.cell? ⟨b, off + 1, none⟩ = some (.string x1) ∧ X.cell? ⟨b, off + 2, none⟩ = some (.string x2) ∧ X.cell? ⟨b, off + 3, none⟩ = some (.string x3) := fun b2 X h => ⟨(by rw [hx1]; exact HW.out.at_ h (by omega)), (by rw [hx2]; exact HW.out.at_ h (by omega)), (by rw [hx3]; exact HW.out.at_ h (by omega))⟩
  have hs2 : x2.size ≤ 100000 := by rw [hx2]; exact HW.out.sm (by omega)
  have hs3 : x3.size ≤ 100000 := by rw [hx3]; exact HW.out.sm (by omega)
  have HKW := hid KW
  clear KW
  have HX : Hid (x1 = wd ws 1 ∧ x2 = wd ws 2 ∧ x3 = wd ws 3) := ⟨hx1, hx2, hx3⟩
  clear hx1 hx2 hx3
  go_enter Tryz.func25, Tryz.ntmps25
  go_upto_region 16 with (first | (refine wpList_store_row rfl 33 (.tmp 7) (.tmp 11) rfl (w.heap.size + 1) (cmB (cmK 5) s0) (by simp [Act.eval]) (by simp [Act.eval]) _ _ hA (infoC' _ _) (cmB_sizes _ _ _ _) (cmB_ones _ _) ?_))
  refine wp_name ?_
  intro wr hwr
  have Cr : wr.heap[w.heap.size + 1]? = some (.cells (cmB (cmK 5) s0) 33 (0, 0)) := by
    rw [hwr]; exact setRow_at hA _
  have Or : wr.heap[w.heap.size]? = some (.cells (cmB cm0 s0) 33 (0, 0)) := by
    rw [hwr]; refine setRow_ne (by omega) ?_ _; exact (by (repeat (first | (with_reducible assumption) | (with_reducible exact alloc_at _ _) | ((with_reducible apply alloc_at'); (simp; done)) | (with_reducible apply alloc_at_lt) | (with_reducible apply heap_drew_at) | (with_reducible apply heap_drewN_at) | (with_reducible apply heap_setCell_same) | ((with_reducible apply heap_set_ne); (first | omega | (dsimp only; omega) | (simp; done) | (simp; omega))) | (with_reducible apply setRow_at) | ((with_reducible apply setRow_ne); (first | omega | (dsimp only; omega) | (simp; done) | (simp; omega))))))
  have Br : Below w.heap.size w wr := by
    rw [hwr]; exact (by repeat (first | with_reducible assumption | with_reducible exact Below.refl _ _ | with_reducible refine Below.drew ?_ | with_reducible refine below_drewN ?_ _ | with_reducible refine below_alloc ?_ _ | with_reducible refine Below.alloc ?_ (by first | omega | (simp; done) | (simp; omega)) _ | with_reducible refine Below.setCell ?_ (by first | omega | (simp; done) | (simp; omega)) _ | with_reducible refine below_setRow ?_ (by first | omega | (simp; done) | (simp; omega)) _))
  have Dr : Rdr R bad w wr := rdr_below Br ((Br.block R hlr).trans HR.out)
  have Dr0 := hid Dr.drew
  have Cr0 : wr.drew.heap[w.heap.size + 1]? = some (.cells (cmB (cmK 5) s0) 33 (0, 0)) := Cr
  have Or0 : wr.drew.heap[w.heap.size]? = some (.cells (cmB cm0 s0) 33 (0, 0)) := Or
  have hk1 : w.heap.size + 1 ≠ R := by omega
  have hk0 : w.heap.size ≠ R := by omega
  clear hwr hA Br Cr Or
  obtain ⟨l1, l2, l3⟩ := HKW.out _ _ Dr
  obtain ⟨ld1, ld2, ld3⟩ := HKW.out _ _ Dr0.out
  clear Dr
  go_region_held3 (fun X => X.cell? ⟨b, off + 1, none⟩ = some (.string x1) ∧ X.cell? ⟨b, off + 2, none⟩ = some (.string x2) ∧ X.cell? ⟨b, off + 3, none⟩ = some (.string x3)) (first | (((refine ⟨?_, ?_, ?_⟩)) <;> with_reducible assumption) | (with_reducible refine HKW.out _ _ (Rdr.on D5.out hlr ?_); exact (by repeat (first | with_reducible assumption | with_reducible exact Below.refl _ _ | with_reducible refine Below.drew ?_ | with_reducible refine below_drewN ?_ _ | with_reducible refine Below.alloc ?_ (by first | omega | (simp; done) | (simp; omega)) _ | with_reducible refine Below.setCell ?_ (by first | omega | (simp; done) | (simp; omega)) _ | with_reducible refine below_setRow ?_ (by first | omega | (simp; done) | (simp; omega)) _)))) (first | (go_at_call_of 54 (Value.string x2); refine (number1 Dr0.out.1 hs2).mono ?_; rintro e w4 ⟨n4, rfl, hn4, hr4⟩; have D4 := hid (Dr0.out.trans hr4); have C4 := hr4.blk Cr0 hk1; have O4 := hr4.blk Or0 hk0; have a4 := blk_free C4; obtain ⟨l4_1, l4_2, l4_3⟩ := HKW.out _ _ D4.out) | (go_at_call_of 55 (Value.string x3); refine (vector4 D4.out.1 hs3).mono ?_; rintro e w5 ⟨v5a, v5b, v5c, v5d, rfl, hn5, hr5⟩; have D5 := hid (D4.out.trans hr5); have C5 := hr5.blk C4 hk1; have O5 := hr5.blk O4 hk0; have a5 := blk_free C5; obtain ⟨l5_1, l5_2, l5_3⟩ := HKW.out _ _ D5.out; have y18 : w5.cell? ⟨w.heap.size + 1, 18, none⟩ = some (.string ⟨#[]⟩) := (cmB_cell C5 18).trans (cm_at18 _ _); have y19 : w5.cell? ⟨w.heap.size + 1, 19, none⟩ = some (.int .i64 0) := (cmB_cell C5 19).trans (cm_at19 _ _); have y20 : w5.cell? ⟨w.heap.size + 1, 20, none⟩ = some (.int .i64 0) := (cmB_cell C5 20).trans (cm_at20 _ _); have y21 : w5.cell? ⟨w.heap.size + 1, 21, none⟩ = some (.int .i64 0) := (cmB_cell C5 21).trans (cm_at21 _ _); have y22 : w5.cell? ⟨w.heap.size + 1, 22, none⟩ = some (.int .i64 0) := (cmB_cell C5 22).trans (cm_at22 _ _); have y23 : w5.cell? ⟨w.heap.size + 1, 23, none⟩ = some (.int .i64 0) := (cmB_cell C5 23).trans (cm_at23 _ _)))
  have CY : ((((((w5.setCell ⟨w.heap.size + 1, 18, none⟩ (.string x1)).setCell ⟨w.heap.size + 1, 19, none⟩ (.int .i64 n4)).setCell ⟨w.heap.size + 1, 20, none⟩ (.int .i64 v5a)).setCell ⟨w.heap.size + 1, 21, none⟩ (.int .i64 v5b)).setCell ⟨w.heap.size + 1, 22, none⟩ (.int .i64 v5c)).setCell ⟨w.heap.size + 1, 23, none⟩ (.int .i64 v5d)).heap[w.heap.size + 1]? = some (.cells (cmB { cmK 5 with node := x1, ep := n4, vec := (v5a, v5b, v5c, v5d) } s0) 33 (0, 0)) := (cm_put23 (cm_put22 (cm_put21 (cm_put20 (cm_put19 (cm_put18 C5 _) _) _) _) _) _)
  have OY : ((((((w5.setCell ⟨w.heap.size + 1, 18, none⟩ (.string x1)).setCell ⟨w.heap.size + 1, 19, none⟩ (.int .i64 n4)).setCell ⟨w.heap.size + 1, 20, none⟩ (.int .i64 v5a)).setCell ⟨w.heap.size + 1, 21, none⟩ (.int .i64 v5b)).setCell ⟨w.heap.size + 1, 22, none⟩ (.int .i64 v5c)).setCell ⟨w.heap.size + 1, 23, none⟩ (.int .i64 v5d)).heap[w.heap.size]? = some (.cells (cmB cm0 s0) 33 (0, 0)) := by
    have h0 := O5
    exact (by (repeat (first | (with_reducible assumption) | (with_reducible exact alloc_at _ _) | ((with_reducible apply alloc_at'); (simp; done)) | (with_reducible apply alloc_at_lt) | (with_reducible apply heap_drew_at) | (with_reducible apply heap_drewN_at) | (with_reducible apply heap_setCell_same) | ((with_reducible apply heap_set_ne); (first | omega | (dsimp only; omega) | (simp; done) | (simp; omega))) | (with_reducible apply setRow_at) | ((with_reducible apply setRow_ne); (first | omega | (dsimp only; omega) | (simp; done) | (simp; omega))))))
  have BY : Below w.heap.size w5 (((((((w5.setCell ⟨w.heap.size + 1, 18, none⟩ (.string x1)).setCell ⟨w.heap.size + 1, 19, none⟩ (.int .i64 n4)).setCell ⟨w.heap.size + 1, 20, none⟩ (.int .i64 v5a)).setCell ⟨w.heap.size + 1, 21, none⟩ (.int .i64 v5b)).setCell ⟨w.heap.size + 1, 22, none⟩ (.int .i64 v5c)).setCell ⟨w.heap.size + 1, 23, none⟩ (.int .i64 v5d)).setRow w.heap.size (cmB { cmK 5 with node := x1, ep := n4, vec := (v5a, v5b, v5c, v5d) } s0)) := (by repeat (first | with_reducible assumption | with_reducible exact Below.refl _ _ | with_reducible refine Below.drew ?_ | with_reducible refine below_drewN ?_ _ | with_reducible refine Below.alloc ?_ (by first | omega | (simp; done) | (simp; omega)) _ | with_reducible refine Below.setCell ?_ (by first | omega | (simp; done) | (simp; omega)) _ | with_reducible refine below_setRow ?_ (by first | omega | (simp; done) | (simp; omega)) _))
  have FIN : Hid (ComQ R bad 5 ws w (.returned (.agg (cmB { cmK 5 with node := x1, ep := n4, vec := (v5a, v5b, v5c, v5d) } s0))) (((((((w5.setCell ⟨w.heap.size + 1, 18, none⟩ (.string x1)).setCell ⟨w.heap.size + 1, 19, none⟩ (.int .i64 n4)).setCell ⟨w.heap.size + 1, 20, none⟩ (.int .i64 v5a)).setCell ⟨w.heap.size + 1, 21, none⟩ (.int .i64 v5b)).setCell ⟨w.heap.size + 1, 22, none⟩ (.int .i64 v5c)).setCell ⟨w.heap.size + 1, 23, none⟩ (.int .i64 v5d)).setRow w.heap.size (cmB { cmK 5 with node := x1, ep := n4, vec := (v5a, v5b, v5c, v5d) } s0))) := by
    have hD := D5.out.on hlr BY
    obtain ⟨rfl, rfl, rfl⟩ := HX.out
    refine comQ_ok ?_ ?_
    · rw [cmdP_5]
      revert hD
      cases numP (wl ws 2) <;> cases vecP (wl ws 3) <;> intro hD <;> simpa using hD
    · intro c hc
      rw [cmdP_5] at hc
      cases q2 : numP (wl ws 2) with
      | none => rw [q2] at hc; cases hc
      | some m2 =>
        cases q3 : vecP (wl ws 3) with
        | none => rw [q2, q3] at hc; cases hc
        | some m3 =>
          rw [q2, q3] at hc
          replace hc := Option.some.inj hc
          have z2 := hn4 m2 q2
          subst z2
          have z3 := hn5 m3 q3
          obtain ⟨t3a, t3b, t3c, t3d⟩ : v5a = (m3.1 : Int) ∧ v5b = (m3.2.1 : Int) ∧ v5c = (m3.2.2.1 : Int) ∧ v5d = (m3.2.2.2 : Int) := ⟨congrArg (fun q : V => q.1) z3, congrArg (fun q : V => q.2.1) z3, congrArg (fun q : V => q.2.2.1) z3, congrArg (fun q : V => q.2.2.2) z3⟩
          subst t3a t3b t3c t3d
          subst hc
          exact ⟨rfl, sl4_nil _ _ _ rfl rfl rfl rfl⟩
  clear HKW HX hn4 hr4 D4 hn5 hr5 D5
  go_wp2_with (first | (refine wpList_load_row rfl 33 (.tmp 7) rfl (w.heap.size + 1) (by simp [Act.eval, Act.put]) _ _ _ _ CY Tryz.underlying33 rfl (infoC' _ _) ?_) | (refine wpList_store_row rfl 33 (.tmp 6) (.tmp 139) rfl w.heap.size (cmB { cmK 5 with node := x1, ep := n4, vec := (v5a, v5b, v5c, v5d) } s0) (by simp [Act.eval, Act.put]) (by simp [Act.eval, Act.put]) _ _ OY (infoC' _ _) (cmB_sizes _ _ _ _) (cmB_ones _ _) ?_))
  refine ret_row1 rfl w.heap.size (cmB { cmK 5 with node := x1, ep := n4, vec := (v5a, v5b, v5c, v5d) } s0) 33 _ rfl Tryz.underlying33 rfl (infoC' _ _) rfl ⟨_, setRow_at OY _, rfl⟩ FIN.out
set_option maxHeartbeats 8000000 in
set_option maxRecDepth 20000 in
theorem command_1 {w : World} {R b off n cap : Nat} {ws : List ByteArray} (bad : Bool) (hR : w.heap[R]? = some (.cells #[.bool bad] 63 (0, 0))) (hW : Wds w R b off n ws) (hn : n = 4) :
    Calls Tryz.prog 25 #[.pointer (some ⟨R, 0, none⟩), .int .i64 1, .slice (some ⟨b, off, none⟩) n cap] w (ComQ R bad 1 ws w) := by
  subst hn
  have HR := hid hR
  have HW := hid hW
  clear hR hW
  have hlr : R < w.heap.size := lt_of_at HR.out
  have hA : ((w.alloc (.cells (cmB cm0 s0) 33)).alloc (.cells (cmB cm0 s0) 33)).heap[w.heap.size + 1]? = some (.cells (cmB cm0 s0) 33 (0, 0)) := (by (repeat (first | (with_reducible assumption) | (with_reducible exact alloc_at _ _) | ((with_reducible apply alloc_at'); (simp; done)) | (with_reducible apply alloc_at_lt) | (with_reducible apply heap_drew_at) | (with_reducible apply heap_drewN_at) | (with_reducible apply heap_setCell_same) | ((with_reducible apply heap_set_ne); (first | omega | (dsimp only; omega) | (simp; done) | (simp; omega))) | (with_reducible apply setRow_at) | ((with_reducible apply setRow_ne); (first | omega | (dsimp only; omega) | (simp; done) | (simp; omega))))))
  have hne := cmB_ne cm0 s0
  obtain ⟨x1, hx1⟩ : ∃ x, x = wd ws 1 := ⟨_, rfl⟩
  obtain ⟨x2, hx2⟩ : ∃ x, x = wd ws 2 := ⟨_, rfl⟩
  obtain ⟨x3, hx3⟩ : ∃ x, x = wd ws 3 := ⟨_, rfl⟩
  have KW : ∀ b2 X, Rdr R b2 w X → X.cell? ⟨b, off + 1, none⟩ = some (.string x1) ∧ X.cell? ⟨b, off + 2, none⟩ = some (.string x2) ∧ X.cell? ⟨b, off + 3, none⟩ = some (.string x3) := fun b2 X h => ⟨(by rw [hx1]; exact HW.out.at_ h (by omega)), (by rw [hx2]; exact HW.out.at_ h (by omega)), (by rw [hx3]; exact HW.out.at_ h (by omega))⟩
  have hs2 : x2.size ≤ 100000 := by rw [hx2]; exact HW.out.sm (by omega)
  have hs3 : x3.size ≤ 100000 := by rw [hx3]; exact HW.out.sm (by omega)
  have HKW := hid KW
  clear KW
  have HX : Hid (x1 = wd ws 1 ∧ x2 = wd ws 2 ∧ x3 = wd ws 3) := ⟨hx1, hx2, hx3⟩
  clear hx1 hx2 hx3
  go_enter Tryz.func25, Tryz.ntmps25
  go_upto_region 4 with (first | (refine wpList_store_row rfl 33 (.tmp 7) (.tmp 11) rfl (w.heap.size + 1) (cmB (cmK 1) s0) (by simp [Act.eval]) (by simp [Act.eval]) _ _ hA (infoC' _ _) (cmB_sizes _ _ _ _) (cmB_ones _ _) ?_))
  refine wp_name ?_
  intro wr hwr
  have Cr : wr.heap[w.heap.size + 1]? = some (.cells (cmB (cmK 1) s0) 33 (0, 0)) := by
    rw [hwr]; exact setRow_at hA _
  have Or : wr.heap[w.heap.size]? = some (.cells (cmB cm0 s0) 33 (0, 0)) := by
    rw [hwr]; refine setRow_ne (by omega) ?_ _; exact (by (repeat (first | (with_reducible assumption) | (with_reducible exact alloc_at _ _) | ((with_reducible apply alloc_at'); (simp; done)) | (with_reducible apply alloc_at_lt) | (with_reducible apply heap_drew_at) | (with_reducible apply heap_drewN_at) | (with_reducible apply heap_setCell_same) | ((with_reducible apply heap_set_ne); (first | omega | (dsimp only; omega) | (simp; done) | (simp; omega))) | (with_reducible apply setRow_at) | ((with_reducible apply setRow_ne); (first | omega | (dsimp only; omega) | (simp; done) | (simp; omega))))))
  have Br : Below w.heap.size w wr := by
    rw [hwr]; exact (by repeat (first | with_reducible assumption | with_reducible exact Below.refl _ _ | with_reducible refine Below.drew ?_ | with_reducible refine below_drewN ?_ _ | with_reducible refine below_alloc ?_ _ | with_reducible refine Below.alloc ?_ (by first | omega | (simp; done) | (simp; omega)) _ | with_reducible refine Below.setCell ?_ (by first | omega | (simp; done) | (simp; omega)) _ | with_reducible refine below_setRow ?_ (by first | omega | (simp; done) | (simp; omega)) _))
  have Dr : Rdr R bad w wr := rdr_below Br ((Br.block R hlr).trans HR.out)
  have Dr0 := hid Dr.drew
  have Cr0 : wr.drew.heap[w.heap.size + 1]? = some (.cells (cmB (cmK 1) s0) 33 (0, 0)) := Cr
  have Or0 : wr.drew.heap[w.heap.size]? = some (.cells (cmB cm0 s0) 33 (0, 0)) := Or
  have hk1 : w.heap.size + 1 ≠ R := by omega
  have hk0 : w.heap.size ≠ R := by omega
  clear hwr hA Br Cr Or
  obtain ⟨l1, l2, l3⟩ := HKW.out _ _ Dr
  obtain ⟨ld1, ld2, ld3⟩ := HKW.out _ _ Dr0.out
  clear Dr
  go_region_held3 (fun X => X.cell? ⟨b, off + 1, none⟩ = some (.string x1) ∧ X.cell? ⟨b, off + 2, none⟩ = some (.string x2) ∧ X.cell? ⟨b, off + 3, none⟩ = some (.string x3)) (first | (((refine ⟨?_, ?_, ?_⟩)) <;> with_reducible assumption) | (with_reducible refine HKW.out _ _ (Rdr.on D5.out hlr ?_); exact (by repeat (first | with_reducible assumption | with_reducible exact Below.refl _ _ | with_reducible refine Below.drew ?_ | with_reducible refine below_drewN ?_ _ | with_reducible refine Below.alloc ?_ (by first | omega | (simp; done) | (simp; omega)) _ | with_reducible refine Below.setCell ?_ (by first | omega | (simp; done) | (simp; omega)) _ | with_reducible refine below_setRow ?_ (by first | omega | (simp; done) | (simp; omega)) _)))) (first | (go_at_call_of 54 (Value.string x2); refine (number1 Dr0.out.1 hs2).mono ?_; rintro e w4 ⟨n4, rfl, hn4, hr4⟩; have D4 := hid (Dr0.out.trans hr4); have C4 := hr4.blk Cr0 hk1; have O4 := hr4.blk Or0 hk0; have a4 := blk_free C4; obtain ⟨l4_1, l4_2, l4_3⟩ := HKW.out _ _ D4.out) | (go_at_call_of 55 (Value.string x3); refine (vector4 D4.out.1 hs3).mono ?_; rintro e w5 ⟨v5a, v5b, v5c, v5d, rfl, hn5, hr5⟩; have D5 := hid (D4.out.trans hr5); have C5 := hr5.blk C4 hk1; have O5 := hr5.blk O4 hk0; have a5 := blk_free C5; obtain ⟨l5_1, l5_2, l5_3⟩ := HKW.out _ _ D5.out; have y1 : w5.cell? ⟨w.heap.size + 1, 1, none⟩ = some (.string ⟨#[]⟩) := (cmB_cell C5 1).trans (cm_at1 _ _); have y2 : w5.cell? ⟨w.heap.size + 1, 2, none⟩ = some (.int .i64 0) := (cmB_cell C5 2).trans (cm_at2 _ _); have y3 : w5.cell? ⟨w.heap.size + 1, 3, none⟩ = some (.int .i64 0) := (cmB_cell C5 3).trans (cm_at3 _ _); have y4 : w5.cell? ⟨w.heap.size + 1, 4, none⟩ = some (.int .i64 0) := (cmB_cell C5 4).trans (cm_at4 _ _); have y5 : w5.cell? ⟨w.heap.size + 1, 5, none⟩ = some (.int .i64 0) := (cmB_cell C5 5).trans (cm_at5 _ _); have y6 : w5.cell? ⟨w.heap.size + 1, 6, none⟩ = some (.int .i64 0) := (cmB_cell C5 6).trans (cm_at6 _ _)))
  have CY : ((((((w5.setCell ⟨w.heap.size + 1, 1, none⟩ (.string x1)).setCell ⟨w.heap.size + 1, 2, none⟩ (.int .i64 n4)).setCell ⟨w.heap.size + 1, 3, none⟩ (.int .i64 v5a)).setCell ⟨w.heap.size + 1, 4, none⟩ (.int .i64 v5b)).setCell ⟨w.heap.size + 1, 5, none⟩ (.int .i64 v5c)).setCell ⟨w.heap.size + 1, 6, none⟩ (.int .i64 v5d)).heap[w.heap.size + 1]? = some (.cells (cmB { cmK 1 with tn := x1, tw := n4, tq := (v5a, v5b, v5c, v5d) } s0) 33 (0, 0)) := (cm_put6 (cm_put5 (cm_put4 (cm_put3 (cm_put2 (cm_put1 C5 _) _) _) _) _) _)
  have OY : ((((((w5.setCell ⟨w.heap.size + 1, 1, none⟩ (.string x1)).setCell ⟨w.heap.size + 1, 2, none⟩ (.int .i64 n4)).setCell ⟨w.heap.size + 1, 3, none⟩ (.int .i64 v5a)).setCell ⟨w.heap.size + 1, 4, none⟩ (.int .i64 v5b)).setCell ⟨w.heap.size + 1, 5, none⟩ (.int .i64 v5c)).setCell ⟨w.heap.size + 1, 6, none⟩ (.int .i64 v5d)).heap[w.heap.size]? = some (.cells (cmB cm0 s0) 33 (0, 0)) := by
    have h0 := O5
    exact (by (repeat (first | (with_reducible assumption) | (with_reducible exact alloc_at _ _) | ((with_reducible apply alloc_at'); (simp; done)) | (with_reducible apply alloc_at_lt) | (with_reducible apply heap_drew_at) | (with_reducible apply heap_drewN_at) | (with_reducible apply heap_setCell_same) | ((with_reducible apply heap_set_ne); (first | omega | (dsimp only; omega) | (simp; done) | (simp; omega))) | (with_reducible apply setRow_at) | ((with_reducible apply setRow_ne); (first | omega | (dsimp only; omega) | (simp; done) | (simp; omega))))))
  have BY : Below w.heap.size w5 (((((((w5.setCell ⟨w.heap.size + 1, 1, none⟩ (.string x1)).setCell ⟨w.heap.size + 1, 2, none⟩ (.int .i64 n4)).setCell ⟨w.heap.size + 1, 3, none⟩ (.int .i64 v5a)).setCell ⟨w.heap.size + 1, 4, none⟩ (.int .i64 v5b)).setCell ⟨w.heap.size + 1, 5, none⟩ (.int .i64 v5c)).setCell ⟨w.heap.size + 1, 6, none⟩ (.int .i64 v5d)).setRow w.heap.size (cmB { cmK 1 with tn := x1, tw := n4, tq := (v5a, v5b, v5c, v5d) } s0)) := (by repeat (first | with_reducible assumption | with_reducible exact Below.refl _ _ | with_reducible refine Below.drew ?_ | with_reducible refine below_drewN ?_ _ | with_reducible refine Below.alloc ?_ (by first | omega | (simp; done) | (simp; omega)) _ | with_reducible refine Below.setCell ?_ (by first | omega | (simp; done) | (simp; omega)) _ | with_reducible refine below_setRow ?_ (by first | omega | (simp; done) | (simp; omega)) _))
  have FIN : Hid (ComQ R bad 1 ws w (.returned (.agg (cmB { cmK 1 with tn := x1, tw := n4, tq := (v5a, v5b, v5c, v5d) } s0))) (((((((w5.setCell ⟨w.heap.size + 1, 1, none⟩ (.string x1)).setCell ⟨w.heap.size + 1, 2, none⟩ (.int .i64 n4)).setCell ⟨w.heap.size + 1, 3, none⟩ (.int .i64 v5a)).setCell ⟨w.heap.size + 1, 4, none⟩ (.int .i64 v5b)).setCell ⟨w.heap.size + 1, 5, none⟩ (.int .i64 v5c)).setCell ⟨w.heap.size + 1, 6, none⟩ (.int .i64 v5d)).setRow w.heap.size (cmB { cmK 1 with tn := x1, tw := n4, tq := (v5a, v5b, v5c, v5d) } s0))) := by
    have hD := D5.out.on hlr BY
    obtain ⟨rfl, rfl, rfl⟩ := HX.out
    refine comQ_ok ?_ ?_
    · rw [cmdP_1]
      revert hD
      cases numP (wl ws 2) <;> cases vecP (wl ws 3) <;> intro hD <;> simpa using hD
    · intro c hc
      rw [cmdP_1] at hc
      cases q2 : numP (wl ws 2) with
      | none => rw [q2] at hc; cases hc
      | some m2 =>
        cases q3 : vecP (wl ws 3) with
        | none => rw [q2, q3] at hc; cases hc
        | some m3 =>
          rw [q2, q3] at hc
          replace hc := Option.some.inj hc
          have z2 := hn4 m2 q2
          subst z2
          have z3 := hn5 m3 q3
          obtain ⟨t3a, t3b, t3c, t3d⟩ : v5a = (m3.1 : Int) ∧ v5b = (m3.2.1 : Int) ∧ v5c = (m3.2.2.1 : Int) ∧ v5d = (m3.2.2.2 : Int) := ⟨congrArg (fun q : V => q.1) z3, congrArg (fun q : V => q.2.1) z3, congrArg (fun q : V => q.2.2.1) z3, congrArg (fun q : V => q.2.2.2) z3⟩
          subst t3a t3b t3c t3d
          subst hc
          exact ⟨rfl, sl4_nil _ _ _ rfl rfl rfl rfl⟩
  clear HKW HX hn4 hr4 D4 hn5 hr5 D5
  go_wp2_with (first | (refine wpList_load_row rfl 33 (.tmp 7) rfl (w.heap.size + 1) (by simp [Act.eval, Act.put]) _ _ _ _ CY Tryz.underlying33 rfl (infoC' _ _) ?_) | (refine wpList_store_row rfl 33 (.tmp 6) (.tmp 139) rfl w.heap.size (cmB { cmK 1 with tn := x1, tw := n4, tq := (v5a, v5b, v5c, v5d) } s0) (by simp [Act.eval, Act.put]) (by simp [Act.eval, Act.put]) _ _ OY (infoC' _ _) (cmB_sizes _ _ _ _) (cmB_ones _ _) ?_))
  refine ret_row1 rfl w.heap.size (cmB { cmK 1 with tn := x1, tw := n4, tq := (v5a, v5b, v5c, v5d) } s0) 33 _ rfl Tryz.underlying33 rfl (infoC' _ _) rfl ⟨_, setRow_at OY _, rfl⟩ FIN.out
set_option maxHeartbeats 8000000 in
set_option maxRecDepth 20000 in
theorem command_3 {w : World} {R b off n cap : Nat} {ws : List ByteArray} (bad : Bool) (hR : w.heap[R]? = some (.cells #[.bool bad] 63 (0, 0))) (hW : Wds w R b off n ws) (hn : n = 2) :
    Calls Tryz.prog 25 #[.pointer (some ⟨R, 0, none⟩), .int .i64 3, .slice (some ⟨b, off, none⟩) n cap] w (ComQ R bad 3 ws w) := by
  subst hn
  have HR := hid hR
  have HW := hid hW
  clear hR hW
  have hlr : R < w.heap.size := lt_of_at HR.out
  have hA : ((w.alloc (.cells (cmB cm0 s0) 33)).alloc (.cells (cmB cm0 s0) 33)).heap[w.heap.size + 1]? = some (.cells (cmB cm0 s0) 33 (0, 0)) := (by (repeat (first | (with_reducible assumption) | (with_reducible exact alloc_at _ _) | ((with_reducible apply alloc_at'); (simp; done)) | (with_reducible apply alloc_at_lt) | (with_reducible apply heap_drew_at) | (with_reducible apply heap_drewN_at) | (with_reducible apply heap_setCell_same) | ((with_reducible apply heap_set_ne); (first | omega | (dsimp only; omega) | (simp; done) | (simp; omega))) | (with_reducible apply setRow_at) | ((with_reducible apply setRow_ne); (first | omega | (dsimp only; omega) | (simp; done) | (simp; omega))))))
  have hne := cmB_ne cm0 s0
  obtain ⟨x1, hx1⟩ : ∃ x, x = wd ws 1 := ⟨_, rfl⟩
  have KW : ∀ b2 X, Rdr R b2 w X → X.cell? ⟨b, off + 1, none⟩ = some (.string x1) := fun b2 X h => (by rw [hx1]; exact HW.out.at_ h (by omega))
  have hs1 : x1.size ≤ 100000 := by rw [hx1]; exact HW.out.sm (by omega)
  have HX := hid hx1
  clear hx1
  go_enter Tryz.func25, Tryz.ntmps25
  go_upto_region 12 with (first | (refine wpList_store_row rfl 33 (.tmp 7) (.tmp 11) rfl (w.heap.size + 1) (cmB (cmK 3) s0) (by simp [Act.eval]) (by simp [Act.eval]) _ _ hA (infoC' _ _) (cmB_sizes _ _ _ _) (cmB_ones _ _) ?_))
  refine wp_name ?_
  intro wr hwr
  have Cr : wr.heap[w.heap.size + 1]? = some (.cells (cmB (cmK 3) s0) 33 (0, 0)) := by
    rw [hwr]; exact setRow_at hA _
  have Or : wr.heap[w.heap.size]? = some (.cells (cmB cm0 s0) 33 (0, 0)) := by
    rw [hwr]; refine setRow_ne (by omega) ?_ _; exact (by (repeat (first | (with_reducible assumption) | (with_reducible exact alloc_at _ _) | ((with_reducible apply alloc_at'); (simp; done)) | (with_reducible apply alloc_at_lt) | (with_reducible apply heap_drew_at) | (with_reducible apply heap_drewN_at) | (with_reducible apply heap_setCell_same) | ((with_reducible apply heap_set_ne); (first | omega | (dsimp only; omega) | (simp; done) | (simp; omega))) | (with_reducible apply setRow_at) | ((with_reducible apply setRow_ne); (first | omega | (dsimp only; omega) | (simp; done) | (simp; omega))))))
  have Br : Below w.heap.size w wr := by
    rw [hwr]; exact (by repeat (first | with_reducible assumption | with_reducible exact Below.refl _ _ | with_reducible refine Below.drew ?_ | with_reducible refine below_drewN ?_ _ | with_reducible refine below_alloc ?_ _ | with_reducible refine Below.alloc ?_ (by first | omega | (simp; done) | (simp; omega)) _ | with_reducible refine Below.setCell ?_ (by first | omega | (simp; done) | (simp; omega)) _ | with_reducible refine below_setRow ?_ (by first | omega | (simp; done) | (simp; omega)) _))
  have Dr : Rdr R bad w wr := rdr_below Br ((Br.block R hlr).trans HR.out)
  have hk1 : w.heap.size + 1 ≠ R := by omega
  have hk0 : w.heap.size ≠ R := by omega
  have hf0 := blk_free Or
  have hf1 := blk_free Cr
  clear hwr hA
  have l1 := KW _ _ Dr
  have D0 := hid Dr
  clear Br Dr
  go_wp2_with fail
  refine (number1 D0.out.1 hs1).mono ?_
  rintro e w4 ⟨n4, rfl, hn4, hr4⟩
  have D4 := hid (D0.out.trans hr4)
  have C4 := hr4.blk Cr hk1
  have O4 := hr4.blk Or hk0
  have a4 := blk_free C4
  have y24 : w4.cell? ⟨w.heap.size + 1, 24, none⟩ = some (.int .i64 0) := (cmB_cell C4 24).trans (cm_at24 _ _)
  have CY : (w4.setCell ⟨w.heap.size + 1, 24, none⟩ (.int .i64 n4)).heap[w.heap.size + 1]? = some (.cells (cmB { cmK 3 with num := n4 } s0) 33 (0, 0)) := cm_put24 C4 _
  have OY : (w4.setCell ⟨w.heap.size + 1, 24, none⟩ (.int .i64 n4)).heap[w.heap.size]? = some (.cells (cmB cm0 s0) 33 (0, 0)) := by
    have h0 := O4
    exact (by (repeat (first | (with_reducible assumption) | (with_reducible exact alloc_at _ _) | ((with_reducible apply alloc_at'); (simp; done)) | (with_reducible apply alloc_at_lt) | (with_reducible apply heap_drew_at) | (with_reducible apply heap_drewN_at) | (with_reducible apply heap_setCell_same) | ((with_reducible apply heap_set_ne); (first | omega | (dsimp only; omega) | (simp; done) | (simp; omega))) | (with_reducible apply setRow_at) | ((with_reducible apply setRow_ne); (first | omega | (dsimp only; omega) | (simp; done) | (simp; omega))))))
  have BY : Below w.heap.size w4 ((w4.setCell ⟨w.heap.size + 1, 24, none⟩ (.int .i64 n4)).setRow w.heap.size (cmB { cmK 3 with num := n4 } s0)) := (by repeat (first | with_reducible assumption | with_reducible exact Below.refl _ _ | with_reducible refine Below.drew ?_ | with_reducible refine below_drewN ?_ _ | with_reducible refine Below.alloc ?_ (by first | omega | (simp; done) | (simp; omega)) _ | with_reducible refine Below.setCell ?_ (by first | omega | (simp; done) | (simp; omega)) _ | with_reducible refine below_setRow ?_ (by first | omega | (simp; done) | (simp; omega)) _))
  have FIN : Hid (ComQ R bad 3 ws w (.returned (.agg (cmB { cmK 3 with num := n4 } s0))) ((w4.setCell ⟨w.heap.size + 1, 24, none⟩ (.int .i64 n4)).setRow w.heap.size (cmB { cmK 3 with num := n4 } s0))) := by
    have hD := D4.out.on hlr BY
    obtain rfl := HX.out
    refine comQ_ok ?_ ?_
    · rw [cmdP_3]
      revert hD
      cases numP (wl ws 1) <;> intro hD <;> simpa using hD
    · intro c hc
      rw [cmdP_3] at hc
      cases q1 : numP (wl ws 1) with
      | none => rw [q1] at hc; cases hc
      | some m1 =>
        rw [q1] at hc
        replace hc := Option.some.inj hc
        have z1 := hn4 m1 q1
        subst z1
        subst hc
        exact ⟨rfl, sl4_nil _ _ _ rfl rfl rfl rfl⟩
  clear KW HX hn4 hr4 D4 D0 Cr Or l1 hf0 hf1
  go_wp2_with (first | (refine wpList_load_row rfl 33 (.tmp 7) rfl (w.heap.size + 1) (by simp [Act.eval, Act.put]) _ _ _ _ CY Tryz.underlying33 rfl (infoC' _ _) ?_) | (refine wpList_store_row rfl 33 (.tmp 6) (.tmp 139) rfl w.heap.size (cmB { cmK 3 with num := n4 } s0) (by simp [Act.eval, Act.put]) (by simp [Act.eval, Act.put]) _ _ OY (infoC' _ _) (cmB_sizes _ _ _ _) (cmB_ones _ _) ?_))
  refine ret_row1 rfl w.heap.size (cmB { cmK 3 with num := n4 } s0) 33 _ rfl Tryz.underlying33 rfl (infoC' _ _) rfl ⟨_, setRow_at OY _, rfl⟩ FIN.out
set_option maxHeartbeats 8000000 in
set_option maxRecDepth 20000 in
theorem command_4 {w : World} {R b off n cap : Nat} {ws : List ByteArray} (bad : Bool) (hR : w.heap[R]? = some (.cells #[.bool bad] 63 (0, 0))) (hW : Wds w R b off n ws) (hn : n = 2) :
    Calls Tryz.prog 25 #[.pointer (some ⟨R, 0, none⟩), .int .i64 4, .slice (some ⟨b, off, none⟩) n cap] w (ComQ R bad 4 ws w) := by
  subst hn
  have HR := hid hR
  have HW := hid hW
  clear hR hW
  have hlr : R < w.heap.size := lt_of_at HR.out
  have hA : ((w.alloc (.cells (cmB cm0 s0) 33)).alloc (.cells (cmB cm0 s0) 33)).heap[w.heap.size + 1]? = some (.cells (cmB cm0 s0) 33 (0, 0)) := (by (repeat (first | (with_reducible assumption) | (with_reducible exact alloc_at _ _) | ((with_reducible apply alloc_at'); (simp; done)) | (with_reducible apply alloc_at_lt) | (with_reducible apply heap_drew_at) | (with_reducible apply heap_drewN_at) | (with_reducible apply heap_setCell_same) | ((with_reducible apply heap_set_ne); (first | omega | (dsimp only; omega) | (simp; done) | (simp; omega))) | (with_reducible apply setRow_at) | ((with_reducible apply setRow_ne); (first | omega | (dsimp only; omega) | (simp; done) | (simp; omega))))))
  have hne := cmB_ne cm0 s0
  obtain ⟨x1, hx1⟩ : ∃ x, x = wd ws 1 := ⟨_, rfl⟩
  have KW : ∀ b2 X, Rdr R b2 w X → X.cell? ⟨b, off + 1, none⟩ = some (.string x1) := fun b2 X h => (by rw [hx1]; exact HW.out.at_ h (by omega))
  have hs1 : x1.size ≤ 100000 := by rw [hx1]; exact HW.out.sm (by omega)
  have HX := hid hx1
  clear hx1
  go_enter Tryz.func25, Tryz.ntmps25
  go_upto_region 12 with (first | (refine wpList_store_row rfl 33 (.tmp 7) (.tmp 11) rfl (w.heap.size + 1) (cmB (cmK 4) s0) (by simp [Act.eval]) (by simp [Act.eval]) _ _ hA (infoC' _ _) (cmB_sizes _ _ _ _) (cmB_ones _ _) ?_))
  refine wp_name ?_
  intro wr hwr
  have Cr : wr.heap[w.heap.size + 1]? = some (.cells (cmB (cmK 4) s0) 33 (0, 0)) := by
    rw [hwr]; exact setRow_at hA _
  have Or : wr.heap[w.heap.size]? = some (.cells (cmB cm0 s0) 33 (0, 0)) := by
    rw [hwr]; refine setRow_ne (by omega) ?_ _; exact (by (repeat (first | (with_reducible assumption) | (with_reducible exact alloc_at _ _) | ((with_reducible apply alloc_at'); (simp; done)) | (with_reducible apply alloc_at_lt) | (with_reducible apply heap_drew_at) | (with_reducible apply heap_drewN_at) | (with_reducible apply heap_setCell_same) | ((with_reducible apply heap_set_ne); (first | omega | (dsimp only; omega) | (simp; done) | (simp; omega))) | (with_reducible apply setRow_at) | ((with_reducible apply setRow_ne); (first | omega | (dsimp only; omega) | (simp; done) | (simp; omega))))))
  have Br : Below w.heap.size w wr := by
    rw [hwr]; exact (by repeat (first | with_reducible assumption | with_reducible exact Below.refl _ _ | with_reducible refine Below.drew ?_ | with_reducible refine below_drewN ?_ _ | with_reducible refine below_alloc ?_ _ | with_reducible refine Below.alloc ?_ (by first | omega | (simp; done) | (simp; omega)) _ | with_reducible refine Below.setCell ?_ (by first | omega | (simp; done) | (simp; omega)) _ | with_reducible refine below_setRow ?_ (by first | omega | (simp; done) | (simp; omega)) _))
  have Dr : Rdr R bad w wr := rdr_below Br ((Br.block R hlr).trans HR.out)
  have hk1 : w.heap.size + 1 ≠ R := by omega
  have hk0 : w.heap.size ≠ R := by omega
  have hf0 := blk_free Or
  have hf1 := blk_free Cr
  clear hwr hA
  have l1 := KW _ _ Dr
  have D0 := hid Dr
  clear Br Dr
  go_wp2_with fail
  refine (number1 D0.out.1 hs1).mono ?_
  rintro e w4 ⟨n4, rfl, hn4, hr4⟩
  have D4 := hid (D0.out.trans hr4)
  have C4 := hr4.blk Cr hk1
  have O4 := hr4.blk Or hk0
  have a4 := blk_free C4
  have y24 : w4.cell? ⟨w.heap.size + 1, 24, none⟩ = some (.int .i64 0) := (cmB_cell C4 24).trans (cm_at24 _ _)
  have CY : (w4.setCell ⟨w.heap.size + 1, 24, none⟩ (.int .i64 n4)).heap[w.heap.size + 1]? = some (.cells (cmB { cmK 4 with num := n4 } s0) 33 (0, 0)) := cm_put24 C4 _
  have OY : (w4.setCell ⟨w.heap.size + 1, 24, none⟩ (.int .i64 n4)).heap[w.heap.size]? = some (.cells (cmB cm0 s0) 33 (0, 0)) := by
    have h0 := O4
    exact (by (repeat (first | (with_reducible assumption) | (with_reducible exact alloc_at _ _) | ((with_reducible apply alloc_at'); (simp; done)) | (with_reducible apply alloc_at_lt) | (with_reducible apply heap_drew_at) | (with_reducible apply heap_drewN_at) | (with_reducible apply heap_setCell_same) | ((with_reducible apply heap_set_ne); (first | omega | (dsimp only; omega) | (simp; done) | (simp; omega))) | (with_reducible apply setRow_at) | ((with_reducible apply setRow_ne); (first | omega | (dsimp only; omega) | (simp; done) | (simp; omega))))))
  have BY : Below w.heap.size w4 ((w4.setCell ⟨w.heap.size + 1, 24, none⟩ (.int .i64 n4)).setRow w.heap.size (cmB { cmK 4 with num := n4 } s0)) := (by repeat (first | with_reducible assumption | with_reducible exact Below.refl _ _ | with_reducible refine Below.drew ?_ | with_reducible refine below_drewN ?_ _ | with_reducible refine Below.alloc ?_ (by first | omega | (simp; done) | (simp; omega)) _ | with_reducible refine Below.setCell ?_ (by first | omega | (simp; done) | (simp; omega)) _ | with_reducible refine below_setRow ?_ (by first | omega | (simp; done) | (simp; omega)) _))
  have FIN : Hid (ComQ R bad 4 ws w (.returned (.agg (cmB { cmK 4 with num := n4 } s0))) ((w4.setCell ⟨w.heap.size + 1, 24, none⟩ (.int .i64 n4)).setRow w.heap.size (cmB { cmK 4 with num := n4 } s0))) := by
    have hD := D4.out.on hlr BY
    obtain rfl := HX.out
    refine comQ_ok ?_ ?_
    · rw [cmdP_4]
      revert hD
      cases numP (wl ws 1) <;> intro hD <;> simpa using hD
    · intro c hc
      rw [cmdP_4] at hc
      cases q1 : numP (wl ws 1) with
      | none => rw [q1] at hc; cases hc
      | some m1 =>
        rw [q1] at hc
        replace hc := Option.some.inj hc
        have z1 := hn4 m1 q1
        subst z1
        subst hc
        exact ⟨rfl, sl4_nil _ _ _ rfl rfl rfl rfl⟩
  clear KW HX hn4 hr4 D4 D0 Cr Or l1 hf0 hf1
  go_wp2_with (first | (refine wpList_load_row rfl 33 (.tmp 7) rfl (w.heap.size + 1) (by simp [Act.eval, Act.put]) _ _ _ _ CY Tryz.underlying33 rfl (infoC' _ _) ?_) | (refine wpList_store_row rfl 33 (.tmp 6) (.tmp 139) rfl w.heap.size (cmB { cmK 4 with num := n4 } s0) (by simp [Act.eval, Act.put]) (by simp [Act.eval, Act.put]) _ _ OY (infoC' _ _) (cmB_sizes _ _ _ _) (cmB_ones _ _) ?_))
  refine ret_row1 rfl w.heap.size (cmB { cmK 4 with num := n4 } s0) 33 _ rfl Tryz.underlying33 rfl (infoC' _ _) rfl ⟨_, setRow_at OY _, rfl⟩ FIN.out
set_option maxHeartbeats 8000000 in
set_option maxRecDepth 20000 in
theorem command_9 {w : World} {R b off n cap : Nat} {ws : List ByteArray} (bad : Bool) (hR : w.heap[R]? = some (.cells #[.bool bad] 63 (0, 0))) (hW : Wds w R b off n ws) (hn : n = 1) :
    Calls Tryz.prog 25 #[.pointer (some ⟨R, 0, none⟩), .int .i64 9, .slice (some ⟨b, off, none⟩) n cap] w (ComQ R bad 9 ws w) := by
  subst hn
  have HR := hid hR
  have HW := hid hW
  clear hR hW
  have hlr : R < w.heap.size := lt_of_at HR.out
  have hA : ((w.alloc (.cells (cmB cm0 s0) 33)).alloc (.cells (cmB cm0 s0) 33)).heap[w.heap.size + 1]? = some (.cells (cmB cm0 s0) 33 (0, 0)) := (by (repeat (first | (with_reducible assumption) | (with_reducible exact alloc_at _ _) | ((with_reducible apply alloc_at'); (simp; done)) | (with_reducible apply alloc_at_lt) | (with_reducible apply heap_drew_at) | (with_reducible apply heap_drewN_at) | (with_reducible apply heap_setCell_same) | ((with_reducible apply heap_set_ne); (first | omega | (dsimp only; omega) | (simp; done) | (simp; omega))) | (with_reducible apply setRow_at) | ((with_reducible apply setRow_ne); (first | omega | (dsimp only; omega) | (simp; done) | (simp; omega))))))
  have hne := cmB_ne cm0 s0
  go_enter Tryz.func25, Tryz.ntmps25
  go_upto_region 22 with (first | (refine wpList_store_row rfl 33 (.tmp 7) (.tmp 11) rfl (w.heap.size + 1) (cmB (cmK 9) s0) (by simp [Act.eval]) (by simp [Act.eval]) _ _ hA (infoC' _ _) (cmB_sizes _ _ _ _) (cmB_ones _ _) ?_))
  refine wp_name ?_
  intro wr hwr
  have Cr : wr.heap[w.heap.size + 1]? = some (.cells (cmB (cmK 9) s0) 33 (0, 0)) := by
    rw [hwr]; exact setRow_at hA _
  have Or : wr.heap[w.heap.size]? = some (.cells (cmB cm0 s0) 33 (0, 0)) := by
    rw [hwr]; refine setRow_ne (by omega) ?_ _; exact (by (repeat (first | (with_reducible assumption) | (with_reducible exact alloc_at _ _) | ((with_reducible apply alloc_at'); (simp; done)) | (with_reducible apply alloc_at_lt) | (with_reducible apply heap_drew_at) | (with_reducible apply heap_drewN_at) | (with_reducible apply heap_setCell_same) | ((with_reducible apply heap_set_ne); (first | omega | (dsimp only; omega) | (simp; done) | (simp; omega))) | (with_reducible apply setRow_at) | ((with_reducible apply setRow_ne); (first | omega | (dsimp only; omega) | (simp; done) | (simp; omega))))))
  have Br : Below w.heap.size w wr := by
    rw [hwr]; exact (by repeat (first | with_reducible assumption | with_reducible exact Below.refl _ _ | with_reducible refine Below.drew ?_ | with_reducible refine below_drewN ?_ _ | with_reducible refine below_alloc ?_ _ | with_reducible refine Below.alloc ?_ (by first | omega | (simp; done) | (simp; omega)) _ | with_reducible refine Below.setCell ?_ (by first | omega | (simp; done) | (simp; omega)) _ | with_reducible refine below_setRow ?_ (by first | omega | (simp; done) | (simp; omega)) _))
  have Dr : Rdr R bad w wr := rdr_below Br ((Br.block R hlr).trans HR.out)
  have hk1 : w.heap.size + 1 ≠ R := by omega
  have hk0 : w.heap.size ≠ R := by omega
  have hf0 := blk_free Or
  have hf1 := blk_free Cr
  clear hwr hA
  have CY := Cr
  have OY := Or
  have BY : Below w.heap.size wr (wr.setRow w.heap.size (cmB (cmK 9) s0)) := (by repeat (first | with_reducible assumption | with_reducible exact Below.refl _ _ | with_reducible refine Below.drew ?_ | with_reducible refine below_drewN ?_ _ | with_reducible refine Below.alloc ?_ (by first | omega | (simp; done) | (simp; omega)) _ | with_reducible refine Below.setCell ?_ (by first | omega | (simp; done) | (simp; omega)) _ | with_reducible refine below_setRow ?_ (by first | omega | (simp; done) | (simp; omega)) _))
  have FIN : Hid (ComQ R bad 9 ws w (.returned (.agg (cmB (cmK 9) s0))) (wr.setRow w.heap.size (cmB (cmK 9) s0))) := by
    have hD := Dr.on hlr BY
    refine comQ_ok ?_ ?_
    · rw [cmdP_9]; simpa using hD
    · intro c hc
      rw [cmdP_9] at hc
      replace hc := Option.some.inj hc
      subst hc
      exact ⟨rfl, sl4_nil _ _ _ rfl rfl rfl rfl⟩
  clear Dr Br BY Cr Or
  go_wp2_with (first | (refine wpList_load_row rfl 33 (.tmp 7) rfl (w.heap.size + 1) (by simp [Act.eval, Act.put]) _ _ _ _ CY Tryz.underlying33 rfl (infoC' _ _) ?_) | (refine wpList_store_row rfl 33 (.tmp 6) (.tmp 139) rfl w.heap.size (cmB (cmK 9) s0) (by simp [Act.eval, Act.put]) (by simp [Act.eval, Act.put]) _ _ OY (infoC' _ _) (cmB_sizes _ _ _ _) (cmB_ones _ _) ?_))
  refine ret_row1 rfl w.heap.size (cmB (cmK 9) s0) 33 _ rfl Tryz.underlying33 rfl (infoC' _ _) rfl ⟨_, setRow_at OY _, rfl⟩ FIN.out
set_option maxHeartbeats 8000000 in
set_option maxRecDepth 20000 in
theorem command_10 {w : World} {R b off n cap : Nat} {ws : List ByteArray} (bad : Bool) (hR : w.heap[R]? = some (.cells #[.bool bad] 63 (0, 0))) (hW : Wds w R b off n ws) (hn : n = 1) :
    Calls Tryz.prog 25 #[.pointer (some ⟨R, 0, none⟩), .int .i64 10, .slice (some ⟨b, off, none⟩) n cap] w (ComQ R bad 10 ws w) := by
  subst hn
  have HR := hid hR
  have HW := hid hW
  clear hR hW
  have hlr : R < w.heap.size := lt_of_at HR.out
  have hA : ((w.alloc (.cells (cmB cm0 s0) 33)).alloc (.cells (cmB cm0 s0) 33)).heap[w.heap.size + 1]? = some (.cells (cmB cm0 s0) 33 (0, 0)) := (by (repeat (first | (with_reducible assumption) | (with_reducible exact alloc_at _ _) | ((with_reducible apply alloc_at'); (simp; done)) | (with_reducible apply alloc_at_lt) | (with_reducible apply heap_drew_at) | (with_reducible apply heap_drewN_at) | (with_reducible apply heap_setCell_same) | ((with_reducible apply heap_set_ne); (first | omega | (dsimp only; omega) | (simp; done) | (simp; omega))) | (with_reducible apply setRow_at) | ((with_reducible apply setRow_ne); (first | omega | (dsimp only; omega) | (simp; done) | (simp; omega))))))
  have hne := cmB_ne cm0 s0
  go_enter Tryz.func25, Tryz.ntmps25
  go_upto_region 22 with (first | (refine wpList_store_row rfl 33 (.tmp 7) (.tmp 11) rfl (w.heap.size + 1) (cmB (cmK 10) s0) (by simp [Act.eval]) (by simp [Act.eval]) _ _ hA (infoC' _ _) (cmB_sizes _ _ _ _) (cmB_ones _ _) ?_))
  refine wp_name ?_
  intro wr hwr
  have Cr : wr.heap[w.heap.size + 1]? = some (.cells (cmB (cmK 10) s0) 33 (0, 0)) := by
    rw [hwr]; exact setRow_at hA _
  have Or : wr.heap[w.heap.size]? = some (.cells (cmB cm0 s0) 33 (0, 0)) := by
    rw [hwr]; refine setRow_ne (by omega) ?_ _; exact (by (repeat (first | (with_reducible assumption) | (with_reducible exact alloc_at _ _) | ((with_reducible apply alloc_at'); (simp; done)) | (with_reducible apply alloc_at_lt) | (with_reducible apply heap_drew_at) | (with_reducible apply heap_drewN_at) | (with_reducible apply heap_setCell_same) | ((with_reducible apply heap_set_ne); (first | omega | (dsimp only; omega) | (simp; done) | (simp; omega))) | (with_reducible apply setRow_at) | ((with_reducible apply setRow_ne); (first | omega | (dsimp only; omega) | (simp; done) | (simp; omega))))))
  have Br : Below w.heap.size w wr := by
    rw [hwr]; exact (by repeat (first | with_reducible assumption | with_reducible exact Below.refl _ _ | with_reducible refine Below.drew ?_ | with_reducible refine below_drewN ?_ _ | with_reducible refine below_alloc ?_ _ | with_reducible refine Below.alloc ?_ (by first | omega | (simp; done) | (simp; omega)) _ | with_reducible refine Below.setCell ?_ (by first | omega | (simp; done) | (simp; omega)) _ | with_reducible refine below_setRow ?_ (by first | omega | (simp; done) | (simp; omega)) _))
  have Dr : Rdr R bad w wr := rdr_below Br ((Br.block R hlr).trans HR.out)
  have hk1 : w.heap.size + 1 ≠ R := by omega
  have hk0 : w.heap.size ≠ R := by omega
  have hf0 := blk_free Or
  have hf1 := blk_free Cr
  clear hwr hA
  have CY := Cr
  have OY := Or
  have BY : Below w.heap.size wr (wr.setRow w.heap.size (cmB (cmK 10) s0)) := (by repeat (first | with_reducible assumption | with_reducible exact Below.refl _ _ | with_reducible refine Below.drew ?_ | with_reducible refine below_drewN ?_ _ | with_reducible refine Below.alloc ?_ (by first | omega | (simp; done) | (simp; omega)) _ | with_reducible refine Below.setCell ?_ (by first | omega | (simp; done) | (simp; omega)) _ | with_reducible refine below_setRow ?_ (by first | omega | (simp; done) | (simp; omega)) _))
  have FIN : Hid (ComQ R bad 10 ws w (.returned (.agg (cmB (cmK 10) s0))) (wr.setRow w.heap.size (cmB (cmK 10) s0))) := by
    have hD := Dr.on hlr BY
    refine comQ_ok ?_ ?_
    · rw [cmdP_10]; simpa using hD
    · intro c hc
      rw [cmdP_10] at hc
      replace hc := Option.some.inj hc
      subst hc
      exact ⟨rfl, sl4_nil _ _ _ rfl rfl rfl rfl⟩
  clear Dr Br BY Cr Or
  go_wp2_with (first | (refine wpList_load_row rfl 33 (.tmp 7) rfl (w.heap.size + 1) (by simp [Act.eval, Act.put]) _ _ _ _ CY Tryz.underlying33 rfl (infoC' _ _) ?_) | (refine wpList_store_row rfl 33 (.tmp 6) (.tmp 139) rfl w.heap.size (cmB (cmK 10) s0) (by simp [Act.eval, Act.put]) (by simp [Act.eval, Act.put]) _ _ OY (infoC' _ _) (cmB_sizes _ _ _ _) (cmB_ones _ _) ?_))
  refine ret_row1 rfl w.heap.size (cmB (cmK 10) s0) 33 _ rfl Tryz.underlying33 rfl (infoC' _ _) rfl ⟨_, setRow_at OY _, rfl⟩ FIN.out
end
end Go.Proofs.YtidcbcljeofooaaGreatDoor
