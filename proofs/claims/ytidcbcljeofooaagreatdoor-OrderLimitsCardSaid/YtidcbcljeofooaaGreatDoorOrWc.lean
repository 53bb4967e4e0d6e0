/- Chapter 20: the reader's command, kind by kind (but submit). -/
import Derived.Test.YtidcbcljeofooaaGreatDoorOrV
namespace Go.Proofs.YtidcbcljeofooaaGreatDoor
open Go.RowKit
section
attribute [local go_sem ↓] zeroCmd buildCmd0 cmB_kind
set_option maxHeartbeats 8000000 in
set_option maxRecDepth 20000 in
theorem command_7 {w : World} {R b off n cap : Nat} {ws : List ByteArray} (bad : Bool) (hR : w.heap[R]? = some (.cells #[.bool bad] 63 (0, 0))) (hW : Wds w R b off n ws) (hn : n = 5) :
    Calls Tryz.prog 25 #[.pointer (some ⟨R, 0, none⟩), .int .i64 7, .slice (some ⟨b, off, none⟩) n cap] w (ComQ R bad 7 ws w) := by
  subst hn
  have HR := hid hR
  have HW := hid hW
  clear hR hW
  have hlr : R < w.heap.size := lt_of_at HR.out
  have hA : ((w.alloc (.cells (cmB cm0 s0) 33)).alloc (.cells (cmB cm0 s0) 33)).heap[w.heap.size + 1]? = some (.cells (cmB cm0 s0) 33 (0, 0)) := (by (repeat (first | (with_reducible assumption) | (with_reducible exact alloc_at _ _) | ((with_reducible apply alloc_at'); (simp; done)) | (with_reducible apply alloc_at_lt) | (with_reducible apply heap_drew_at) | (with_reducible apply heap_drewN_at) | (with_reducible apply heap_setCell_same) | ((with_reducible apply heap_set_ne); (first | omega | (dsimp only; omega) | (simp; done) | (simp; omega))) | (with_reducible apply setRow_at) | ((with_reducible apply setRow_ne); (first | omega | (dsimp only; omega) | (simp; done) | (simp; omega))))))
  have hne := cmB_ne cm0 s0
  obtain ⟨x1, hx1⟩ : ∃ x, x = wd ws 1 := ⟨_, rfl⟩
  obtain ⟨x2, hx2⟩ : ∃ x, x = wd ws 2 := ⟨_, rfl⟩
  obtain ⟨x3, hx3⟩ : ∃ x, x = wd ws 3 := ⟨_, rfl⟩
  obtain ⟨x4, hx4⟩ : ∃ x, x = wd ws 4 := ⟨_, rfl⟩
  have KW : ∀ b2 X, Rdr R b2 w X → X.cell? ⟨b, off + 1, none⟩ = some (.string x1) ∧ X.cell? ⟨b, off + 2, none⟩ = some (.string x2) ∧ X.cell? ⟨b, off + 3, none⟩ = some (.string x3) ∧ X.cell? ⟨b, off + 4, none⟩ = some (.string x4) := fun b2 X h => ⟨(by rw [hx1]; exact HW.out.at_ h (by omega)), (by rw [hx2]; exact HW.out.at_ h (by omega)), (by rw [hx3]; exact HW.out.at_ h (by omega)), (by rw [hx4]; exact HW.out.at_ h (by omega))⟩
  have hs2 : x2.size ≤ 100000 := by rw [hx2]; exact HW.out.sm (by omega)
  have hs3 : x3.size ≤ 100000 := by rw [hx3]; exact HW.out.sm (by omega)
  have hs4 : x4.size ≤ 100000 := by rw [hx4]; exact HW.out.sm (by omega)
  have HKW := hid KW
  clear KW
  have HX : Hid (x1 = wd ws 1 ∧ x2 = wd ws 2 ∧ x3 = wd ws 3 ∧ x4 = wd ws 4) := ⟨hx1, hx2, hx3, hx4⟩
  clear hx1 hx2 hx3 hx4
  go_enter Tryz.func25, Tryz.ntmps25
  go_upto_region 21 with (first | (refine wpList_store_row rfl 33 (.tmp 7) (.tmp 11) rfl (w.heap.size + 1) (cmB (cmK 7) s0) (by simp [Act.eval]) (by simp [Act.eval]) _ _ hA (infoC' _ _) (cmB_sizes _ _ _ _) (cmB_ones _ _) ?_))
  refine wp_name ?_
  intro wr hwr
  have Cr : wr.heap[w.heap.size + 1]? = some (.cells (cmB (cmK 7) s0) 33 (0, 0)) := by
    rw [hwr]; exact setRow_at hA _
  have Or : wr.heap[w.heap.size]? = some (.cells (cmB cm0 s0) 33 (0, 0)) := by
    rw [hwr]; refine setRow_ne (by omega) ?_ _; exact (by (repeat (first | (with_reducible assumption) | (with_reducible exact alloc_at _ _) | ((with_reducible apply alloc_at'); (simp; done)) | (with_reducible apply alloc_at_lt) | (with_reducible apply heap_drew_at) | (with_reducible apply heap_drewN_at) | (with_reducible apply heap_setCell_same) | ((with_reducible apply heap_set_ne); (first | omega | (dsimp only; omega) | (simp; done) | (simp; omega))) | (with_reducible apply setRow_at) | ((with_reducible apply setRow_ne); (first | omega | (dsimp only; omega) | (simp; done) | (simp; omega))))))
  have Br : Below w.heap.size w wr := by
    rw [hwr]; exact (by repeat (first | with_reducible assumption | with_reducible exact Below.refl _ _ | with_reducible refine Below.drew ?_ | with_reducible refine below_drewN ?_ _ | with_reducible refine below_alloc ?_ _ | with_reducible refine Below.alloc ?_ (by first | omega | (simp; done) | (simp; omega)) _ | with_reducible refine Below.setCell ?_ (by first | omega | (simp; done) | (simp; omega)) _ | with_reducible refine below_setRow ?_ (by first | omega | (simp; done) | (simp; omega)) _))
  have Dr : Rdr R bad w wr := rdr_below Br ((Br.block R hlr).trans HR.out)
  have Dr0 := hid Dr.drew
  have Cr0 : wr.drew.heap[w.heap.size + 1]? = some (.cells (cmB (cmK 7) s0) 33 (0, 0)) := Cr
  have Or0 : wr.drew.heap[w.heap.size]? = some (.cells (cmB cm0 s0) 33 (0, 0)) := Or
  have hk1 : w.heap.size + 1 ≠ R := by omega
  have hk0 : w.heap.size ≠ R := by omega
  clear hwr hA Br Cr Or
  obtain ⟨l1, l2, l3, l4⟩ := HKW.out _ _ Dr
  obtain ⟨ld1, ld2, ld3, ld4⟩ := HKW.out _ _ Dr0.out
  clear Dr
  go_region_held3 (fun X => X.cell? ⟨b, off + 1, none⟩ = some (.string x1) ∧ X.cell? ⟨b, off + 2, none⟩ = some (.string x2) ∧ X.cell? ⟨b, off + 3, none⟩ = some (.string x3) ∧ X.cell? ⟨b, off + 4, none⟩ = some (.string x4)) (first | (((refine ⟨?_, ?_, ?_, ?_⟩)) <;> with_reducible assumption) | (with_reducible refine HKW.out _ _ (Rdr.on D6.out hlr ?_); exact (by repeat (first | with_reducible assumption | with_reducible exact Below.refl _ _ | with_reducible refine Below.drew ?_ | with_reducible refine below_drewN ?_ _ | with_reducible refine Below.alloc ?_ (by first | omega | (simp; done) | (simp; omega)) _ | with_reducible refine Below.setCell ?_ (by first | omega | (simp; done) | (simp; omega)) _ | with_reducible refine below_setRow ?_ (by first | omega | (simp; done) | (simp; omega)) _)))) (first | (go_at_call_of 54 (Value.string x2); refine (number1 Dr0.out.1 hs2).mono ?_; rintro e w4 ⟨n4, rfl, hn4, hr4⟩; have D4 := hid (Dr0.out.trans hr4); have C4 := hr4.blk Cr0 hk1; have O4 := hr4.blk Or0 hk0; have a4 := blk_free C4; obtain ⟨l4_1, l4_2, l4_3, l4_4⟩ := HKW.out _ _ D4.out) | (go_at_call_of 54 (Value.string x3); refine (number1 D4.out.1 hs3).mono ?_; rintro e w5 ⟨n5, rfl, hn5, hr5⟩; have D5 := hid (D4.out.trans hr5); have C5 := hr5.blk C4 hk1; have O5 := hr5.blk O4 hk0; have a5 := blk_free C5; obtain ⟨l5_1, l5_2, l5_3, l5_4⟩ := HKW.out _ _ D5.out) | (go_at_call_of 54 (Value.string x4); refine (number1 D5.out.1 hs4).mono ?_; rintro e w6 ⟨n6, rfl, hn6, hr6⟩; have D6 := hid (D5.out.trans hr6); have C6 := hr6.blk C5 hk1; have O6 := hr6.blk O5 hk0; have a6 := blk_free C6; obtain ⟨l6_1, l6_2, l6_3, l6_4⟩ := HKW.out _ _ D6.out; have y18 : w6.cell? ⟨w.heap.size + 1, 18, none⟩ = some (.string ⟨#[]⟩) := (cmB_cell C6 18).trans (cm_at18 _ _); have y19 : w6.cell? ⟨w.heap.size + 1, 19, none⟩ = some (.int .i64 0) := (cmB_cell C6 19).trans (cm_at19 _ _); have y24 : w6.cell? ⟨w.heap.size + 1, 24, none⟩ = some (.int .i64 0) := (cmB_cell C6 24).trans (cm_at24 _ _); have y25 : w6.cell? ⟨w.heap.size + 1, 25, none⟩ = some (.int .i64 0) := (cmB_cell C6 25).trans (cm_at25 _ _)))
  have CY : ((((w6.setCell ⟨w.heap.size + 1, 18, none⟩ (.string x1)).setCell ⟨w.heap.size + 1, 19, none⟩ (.int .i64 n4)).setCell ⟨w.heap.size + 1, 24, none⟩ (.int .i64 n5)).setCell ⟨w.heap.size + 1, 25, none⟩ (.int .i64 n6)).heap[w.heap.size + 1]? = some (.cells (cmB { cmK 7 with node := x1, ep := n4, num := n5, att := n6 } s0) 33 (0, 0)) := (cm_put25 (cm_put24 (cm_put19 (cm_put18 C6 _) _) _) _)
  have OY : ((((w6.setCell ⟨w.heap.size + 1, 18, none⟩ (.string x1)).setCell ⟨w.heap.size + 1, 19, none⟩ (.int .i64 n4)).setCell ⟨w.heap.size + 1, 24, none⟩ (.int .i64 n5)).setCell ⟨w.heap.size + 1, 25, none⟩ (.int .i64 n6)).heap[w.heap.size]? = some (.cells (cmB cm0 s0) 33 (0, 0)) := by
    have h0 := O6
    exact (by (repeat (first | (with_reducible assumption) | (with_reducible exact alloc_at _ _) | ((with_reducible apply alloc_at'); (simp; done)) | (with_reducible apply alloc_at_lt) | (with_reducible apply heap_drew_at) | (with_reducible apply heap_drewN_at) | (with_reducible apply heap_setCell_same) | ((with_reducible apply heap_set_ne); (first | omega | (dsimp only; omega) | (simp; done) | (simp; omega))) | (with_reducible apply setRow_at) | ((with_reducible apply setRow_ne); (first | omega | (dsimp only; omega) | (simp; done) | (simp; omega))))))
  have BY : Below w.heap.size w6 (((((w6.setCell ⟨w.heap.size + 1, 18, none⟩ (.string x1)).setCell ⟨w.heap.size + 1, 19, none⟩ (.int .i64 n4)).setCell ⟨w.heap.size + 1, 24, none⟩ (.int .i64 n5)).setCell ⟨w.heap.size + 1, 25, none⟩ (.int .i64 n6)).setRow w.heap.size (cmB { cmK 7 with node := x1, ep := n4, num := n5, att := n6 } s0)) := (by repeat (first | with_reducible assumption | with_reducible exact Below.refl _ _ | with_reducible refine Below.drew ?_ | with_reducible refine below_drewN ?_ _ | with_reducible refine Below.alloc ?_ (by first | omega | (simp; done) | (simp; omega)) _ | with_reducible refine Below.setCell ?_ (by first | omega | (simp; done) | (simp; omega)) _ | with_reducible refine below_setRow ?_ (by first | omega | (simp; done) | (simp; omega)) _))
  have FIN : Hid (ComQ R bad 7 ws w (.returned (.agg (cmB { cmK 7 with node := x1, ep := n4, num := n5, att := n6 } s0))) (((((w6.setCell ⟨w.heap.size + 1, 18, none⟩ (.string x1)).setCell ⟨w.heap.size + 1, 19, none⟩ (.int .i64 n4)).setCell ⟨w.heap.size + 1, 24, none⟩ (.int .i64 n5)).setCell ⟨w.heap.size + 1, 25, none⟩ (.int .i64 n6)).setRow w.heap.size (cmB { cmK 7 with node := x1, ep := n4, num := n5, att := n6 } s0))) := by
    have hD := D6.out.on hlr BY
    obtain ⟨rfl, rfl, rfl, rfl⟩ := HX.out
    refine comQ_ok ?_ ?_
    · rw [cmdP_7]
      revert hD
      cases numP (wl ws 2) <;> cases numP (wl ws 3) <;> cases numP (wl ws 4) <;> intro hD <;> simpa using hD
    · intro c hc
      rw [cmdP_7] at hc
      cases q2 : numP (wl ws 2) with
      | none => rw [q2] at hc; cases hc
      | some m2 =>
        cases q3 : numP (wl ws 3) with
        | none => rw [q2, q3] at hc; cases hc
        | some m3 =>
          cases q4 : numP (wl ws 4) with
          | none => rw [q2, q3, q4] at hc; cases hc
          | some m4 =>
            rw [q2, q3, q4] at hc
            replace hc := Option.some.inj hc
            have z2 := hn4 m2 q2
            subst z2
            have z3 := hn5 m3 q3
            subst z3
            have z4 := hn6 m4 q4
            subst z4
            subst hc
            exact ⟨rfl, sl4_nil _ _ _ rfl rfl rfl rfl⟩
  clear HKW HX hn4 hr4 D4 hn5 hr5 D5 hn6 hr6 D6
  go_wp2_with (first | (refine wpList_load_row rfl 33 (.tmp 7) rfl (w.heap.size + 1) (by simp [Act.eval, Act.put]) _ _ _ _ CY Tryz.underlying33 rfl (infoC' _ _) ?_) | (refine wpList_store_row rfl 33 (.tmp 6) (.tmp 139) rfl w.heap.size (cmB { cmK 7 with node := x1, ep := n4, num := n5, att := n6 } s0) (by simp [Act.eval, Act.put]) (by simp [Act.eval, Act.put]) _ _ OY (infoC' _ _) (cmB_sizes _ _ _ _) (cmB_ones _ _) ?_))
  refine ret_row1 rfl w.heap.size (cmB { cmK 7 with node := x1, ep := n4, num := n5, att := n6 } s0) 33 _ rfl Tryz.underlying33 rfl (infoC' _ _) rfl ⟨_, setRow_at OY _, rfl⟩ FIN.out
set_option maxHeartbeats 8000000 in
set_option maxRecDepth 20000 in
theorem command_8 {w : World} {R b off n cap : Nat} {ws : List ByteArray} (bad : Bool) (hR : w.heap[R]? = some (.cells #[.bool bad] 63 (0, 0))) (hW : Wds w R b off n ws) (hn : n = 5) :
    Calls Tryz.prog 25 #[.pointer (some ⟨R, 0, none⟩), .int .i64 8, .slice (some ⟨b, off, none⟩) n cap] w (ComQ R bad 8 ws w) := by
  subst hn
  have HR := hid hR
  have HW := hid hW
  clear hR hW
  have hlr : R < w.heap.size := lt_of_at HR.out
  have hA : ((w.alloc (.cells (cmB cm0 s0) 33)).alloc (.cells (cmB cm0 s0) 33)).heap[w.heap.size + 1]? = some (.cells (cmB cm0 s0) 33 (0, 0)) := (by (repeat (first | (with_reducible assumption) | (with_reducible exact alloc_at _ _) | ((with_reducible apply alloc_at'); (simp; done)) | (with_reducible apply alloc_at_lt) | (with_reducible apply heap_drew_at) | (with_reducible apply heap_drewN_at) | (with_reducible apply heap_setCell_same) | ((with_reducible apply heap_set_ne); (first | omega | (dsimp only; omega) | (simp; done) | (simp; omega))) | (with_reducible apply setRow_at) | ((with_reducible apply setRow_ne); (first | omega | (dsimp only; omega) | (simp; done) | (simp; omega))))))
  have hne := cmB_ne cm0 s0
  obtain ⟨x1, hx1⟩ : ∃ x, x = wd ws 1 := ⟨_, rfl⟩
  obtain ⟨x2, hx2⟩ : ∃ x, x = wd ws 2 := ⟨_, rfl⟩
  obtain ⟨x3, hx3⟩ : ∃ x, x = wd ws 3 := ⟨_, rfl⟩
  obtain ⟨x4, hx4⟩ : ∃ x, x = wd ws 4 := ⟨_, rfl⟩
  have KW : ∀ b2 X, Rdr R b2 w X → X.cell? ⟨b, off + 1, none⟩ = some (.string x1) ∧ X.cell? ⟨b, off + 2, none⟩ = some (.string x2) ∧ X.cell? ⟨b, off + 3, none⟩ = some (.string x3) ∧ X.cell? ⟨b, off + 4, none⟩ = some (.string x4) := fun b2 X h => ⟨(by rw [hx1]; exact HW.out.at_ h (by omega)), (by rw [hx2]; exact HW.out.at_ h (by omega)), (by rw [hx3]; exact HW.out.at_ h (by omega)), (by rw [hx4]; exact HW.out.at_ h (by omega))⟩
  have hs2 : x2.size ≤ 100000 := by rw [hx2]; exact HW.out.sm (by omega)
  have hs3 : x3.size ≤ 100000 := by rw [hx3]; exact HW.out.sm (by omega)
  have hs4 : x4.size ≤ 100000 := by rw [hx4]; exact HW.out.sm (by omega)
  have HKW := hid KW
  clear KW
  have HX : Hid (x1 = wd ws 1 ∧ x2 = wd ws 2 ∧ x3 = wd ws 3 ∧ x4 = wd ws 4) := ⟨hx1, hx2, hx3, hx4⟩
  clear hx1 hx2 hx3 hx4
  go_enter Tryz.func25, Tryz.ntmps25
  go_upto_region 21 with (first | (refine wpList_store_row rfl 33 (.tmp 7) (.tmp 11) rfl (w.heap.size + 1) (cmB (cmK 8) s0) (by simp [Act.eval]) (by simp [Act.eval]) _ _ hA (infoC' _ _) (cmB_sizes _ _ _ _) (cmB_ones _ _) ?_))
  refine wp_name ?_
  intro wr hwr
  have Cr : wr.heap[w.heap.size + 1]? = some (.cells (cmB (cmK 8) s0) 33 (0, 0)) := by
    rw [hwr]; exact setRow_at hA _
  have Or : wr.heap[w.heap.size]? = some (.cells (cmB cm0 s0) 33 (0, 0)) := by
    rw [hwr]; refine setRow_ne (by omega) ?_ _; exact (by (repeat (first | (with_reducible assumption) | (with_reducible exact alloc_at _ _) | ((with_reducible apply alloc_at'); (simp; done)) | (with_reducible apply alloc_at_lt) | (with_reducible apply heap_drew_at) | (with_reducible apply heap_drewN_at) | (with_reducible apply heap_setCell_same) | ((with_reducible apply heap_set_ne); (first | omega | (dsimp only; omega) | (simp; done) | (simp; omega))) | (with_reducible apply setRow_at) | ((with_reducible apply setRow_ne); (first | omega | (dsimp only; omega) | (simp; done) | (simp; omega))))))
  have Br : Below w.heap.size w wr := by
    rw [hwr]; exact (by repeat (first | with_reducible assumption | with_reducible exact Below.refl _ _ | with_reducible refine Below.drew ?_ | with_reducible refine below_drewN ?_ _ | with_reducible refine below_alloc ?_ _ | with_reducible refine Below.alloc ?_ (by first | omega | (simp; done) | (simp; omega)) _ | with_reducible refine Below.setCell ?_ (by first | omega | (simp; done) | (simp; omega)) _ | with_reducible refine below_setRow ?_ (by first | omega | (simp; done) | (simp; omega)) _))
  have Dr : Rdr R bad w wr := rdr_below Br ((Br.block R hlr).trans HR.out)
  have Dr0 := hid Dr.drew
  have Cr0 : wr.drew.heap[w.heap.size + 1]? = some (.cells (cmB (cmK 8) s0) 33 (0, 0)) := Cr
  have Or0 : wr.drew.heap[w.heap.size]? = some (.cells (cmB cm0 s0) 33 (0, 0)) := Or
  have hk1 : w.heap.size + 1 ≠ R := by omega
  have hk0 : w.heap.size ≠ R := by omega
  clear hwr hA Br Cr Or
  obtain ⟨l1, l2, l3, l4⟩ := HKW.out _ _ Dr
  obtain ⟨ld1, ld2, ld3, ld4⟩ := HKW.out _ _ Dr0.out
  clear Dr
  go_region_held3 (fun X => X.cell? ⟨b, off + 1, none⟩ = some (.string x1) ∧ X.cell? ⟨b, off + 2, none⟩ = some (.string x2) ∧ X.cell? ⟨b, off + 3, none⟩ = some (.string x3) ∧ X.cell? ⟨b, off + 4, none⟩ = some (.string x4)) (first | (((refine ⟨?_, ?_, ?_, ?_⟩)) <;> with_reducible assumption) | (with_reducible refine HKW.out _ _ (Rdr.on D6.out hlr ?_); exact (by repeat (first | with_reducible assumption | with_reducible exact Below.refl _ _ | with_reducible refine Below.drew ?_ | with_reducible refine below_drewN ?_ _ | with_reducible refine Below.alloc ?_ (by first | omega | (simp; done) | (simp; omega)) _ | with_reducible refine Below.setCell ?_ (by first | omega | (simp; done) | (simp; omega)) _ | with_reducible refine below_setRow ?_ (by first | omega | (simp; done) | (simp; omega)) _)))) (first | (go_at_call_of 54 (Value.string x2); refine (number1 Dr0.out.1 hs2).mono ?_; rintro e w4 ⟨n4, rfl, hn4, hr4⟩; have D4 := hid (Dr0.out.trans hr4); have C4 := hr4.blk Cr0 hk1; have O4 := hr4.blk Or0 hk0; have a4 := blk_free C4; obtain ⟨l4_1, l4_2, l4_3, l4_4⟩ := HKW.out _ _ D4.out) | (go_at_call_of 54 (Value.string x3); refine (number1 D4.out.1 hs3).mono ?_; rintro e w5 ⟨n5, rfl, hn5, hr5⟩; have D5 := hid (D4.out.trans hr5); have C5 := hr5.blk C4 hk1; have O5 := hr5.blk O4 hk0; have a5 := blk_free C5; obtain ⟨l5_1, l5_2, l5_3, l5_4⟩ := HKW.out _ _ D5.out) | (go_at_call_of 54 (Value.string x4); refine (number1 D5.out.1 hs4).mono ?_; rintro e w6 ⟨n6, rfl, hn6, hr6⟩; have D6 := hid (D5.out.trans hr6); have C6 := hr6.blk C5 hk1; have O6 := hr6.blk O5 hk0; have a6 := blk_free C6; obtain ⟨l6_1, l6_2, l6_3, l6_4⟩ := HKW.out _ _ D6.out; have y18 : w6.cell? ⟨w.heap.size + 1, 18, none⟩ = some (.string ⟨#[]⟩) := (cmB_cell C6 18).trans (cm_at18 _ _); have y19 : w6.cell? ⟨w.heap.size + 1, 19, none⟩ = some (.int .i64 0) := (cmB_cell C6 19).trans (cm_at19 _ _); have y24 : w6.cell? ⟨w.heap.size + 1, 24, none⟩ = some (.int .i64 0) := (cmB_cell C6 24).trans (cm_at24 _ _); have y25 : w6.cell? ⟨w.heap.size + 1, 25, none⟩ = some (.int .i64 0) := (cmB_cell C6 25).trans (cm_at25 _ _)))
  have CY : ((((w6.setCell ⟨w.heap.size + 1, 18, none⟩ (.string x1)).setCell ⟨w.heap.size + 1, 19, none⟩ (.int .i64 n4)).setCell ⟨w.heap.size + 1, 24, none⟩ (.int .i64 n5)).setCell ⟨w.heap.size + 1, 25, none⟩ (.int .i64 n6)).heap[w.heap.size + 1]? = some (.cells (cmB { cmK 8 with node := x1, ep := n4, num := n5, att := n6 } s0) 33 (0, 0)) := (cm_put25 (cm_put24 (cm_put19 (cm_put18 C6 _) _) _) _)
  have OY : ((((w6.setCell ⟨w.heap.size + 1, 18, none⟩ (.string x1)).setCell ⟨w.heap.size + 1, 19, none⟩ (.int .i64 n4)).setCell ⟨w.heap.size + 1, 24, none⟩ (.int .i64 n5)).setCell ⟨w.heap.size + 1, 25, none⟩ (.int .i64 n6)).heap[w.heap.size]? = some (.cells (cmB cm0 s0) 33 (0, 0)) := by
    have h0 := O6
    exact (by (repeat (first | (with_reducible assumption) | (with_reducible exact alloc_at _ _) | ((with_reducible apply alloc_at'); (simp; done)) | (with_reducible apply alloc_at_lt) | (with_reducible apply heap_drew_at) | (with_reducible apply heap_drewN_at) | (with_reducible apply heap_setCell_same) | ((with_reducible apply heap_set_ne); (first | omega | (dsimp only; omega) | (simp; done) | (simp; omega))) | (with_reducible apply setRow_at) | ((with_reducible apply setRow_ne); (first | omega | (dsimp only; omega) | (simp; done) | (simp; omega))))))
  have BY : Below w.heap.size w6 (((((w6.setCell ⟨w.heap.size + 1, 18, none⟩ (.string x1)).setCell ⟨w.heap.size + 1, 19, none⟩ (.int .i64 n4)).setCell ⟨w.heap.size + 1, 24, none⟩ (.int .i64 n5)).setCell ⟨w.heap.size + 1, 25, none⟩ (.int .i64 n6)).setRow w.heap.size (cmB { cmK 8 with node := x1, ep := n4, num := n5, att := n6 } s0)) := (by repeat (first | with_reducible assumption | with_reducible exact Below.refl _ _ | with_reducible refine Below.drew ?_ | with_reducible refine below_drewN ?_ _ | with_reducible refine Below.alloc ?_ (by first | omega | (simp; done) | (simp; omega)) _ | with_reducible refine Below.setCell ?_ (by first | omega | (simp; done) | (simp; omega)) _ | with_reducible refine below_setRow ?_ (by first | omega | (simp; done) | (simp; omega)) _))
  have FIN : Hid (ComQ R bad 8 ws w (.returned (.agg (cmB { cmK 8 with node := x1, ep := n4, num := n5, att := n6 } s0))) (((((w6.setCell ⟨w.heap.size + 1, 18, none⟩ (.string x1)).setCell ⟨w.heap.size + 1, 19, none⟩ (.int .i64 n4)).setCell ⟨w.heap.size + 1, 24, none⟩ (.int .i64 n5)).setCell ⟨w.heap.size + 1, 25, none⟩ (.int .i64 n6)).setRow w.heap.size (cmB { cmK 8 with node := x1, ep := n4, num := n5, att := n6 } s0))) := by
    have hD := D6.out.on hlr BY
    obtain ⟨rfl, rfl, rfl, rfl⟩ := HX.out
    refine comQ_ok ?_ ?_
    · rw [cmdP_8]
      revert hD
      cases numP (wl ws 2) <;> cases numP (wl ws 3) <;> cases numP (wl ws 4) <;> intro hD <;> simpa using hD
    · intro c hc
      rw [cmdP_8] at hc
      cases q2 : numP (wl ws 2) with
      | none => rw [q2] at hc; cases hc
      | some m2 =>
        cases q3 : numP (wl ws 3) with
        | none => rw [q2, q3] at hc; cases hc
        | some m3 =>
          cases q4 : numP (wl ws 4) with
          | none => rw [q2, q3, q4] at hc; cases hc
          | some m4 =>
            rw [q2, q3, q4] at hc
            replace hc := Option.some.inj hc
            have z2 := hn4 m2 q2
            subst z2
            have z3 := hn5 m3 q3
            subst z3
            have z4 := hn6 m4 q4
            subst z4
            subst hc
            exact ⟨rfl, sl4_nil _ _ _ rfl rfl rfl rfl⟩
  clear HKW HX hn4 hr4 D4 hn5 hr5 D5 hn6 hr6 D6
  go_wp2_with (first | (refine wpList_load_row rfl 33 (.tmp 7) rfl (w.heap.size + 1) (by simp [Act.eval, Act.put]) _ _ _ _ CY Tryz.underlying33 rfl (infoC' _ _) ?_) | (refine wpList_store_row rfl 33 (.tmp 6) (.tmp 139) rfl w.heap.size (cmB { cmK 8 with node := x1, ep := n4, num := n5, att := n6 } s0) (by simp [Act.eval, Act.put]) (by simp [Act.eval, Act.put]) _ _ OY (infoC' _ _) (cmB_sizes _ _ _ _) (cmB_ones _ _) ?_))
  refine ret_row1 rfl w.heap.size (cmB { cmK 8 with node := x1, ep := n4, num := n5, att := n6 } s0) 33 _ rfl Tryz.underlying33 rfl (infoC' _ _) rfl ⟨_, setRow_at OY _, rfl⟩ FIN.out
end
end Go.Proofs.YtidcbcljeofooaaGreatDoor
