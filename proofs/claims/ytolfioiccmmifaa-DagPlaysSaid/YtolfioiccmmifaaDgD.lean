/- Chapter 12: what descends from a job, in memory (below). -/
import Derived.Test.YtolfioiccmmifaaDgC
namespace Go.Proofs.Ytolfioiccmmifaa
open Go.RowKit
variable {B H : Nat} {w w' : World} {R R' : Nat → Value} {G G' : Gr}
attribute [local go_sem ↓] zeroS
set_option maxRecDepth 20000 in
set_option maxHeartbeats 8000000 in
theorem below_g (h : GrV B w H R G) (ok : G.Lnk) {id : Nat} (hid2 : id ≤ 100) : Calls Try.prog 27 #[.pointer (some ⟨H, 0, none⟩), .int .i64 id] w fun e w' => (∃ v', e = .returned v' ∧ w'.ownsRow w.heap.size 2 1 v' (pick (G.Rch id)).length (rowD (pick (G.Rch id)))) ∧ Below w.heap.size w w' := by
  have HH := hid h
  have HOK := hid ok
  have hlH := h.ltH
  have hib : (id : Int) < 101 := by omega
  have HID := hid hid2
  clear h ok hid2
  go_enter Try.func27, Try.ntmps27
  go_upto_region 3 with (fail)
  refine wp_name ?_
  intro w1 hw1
  have b1 : Below w.heap.size w w1 := by rw [hw1]; exact (by repeat (first | with_reducible assumption | with_reducible exact Below.refl _ _ | with_reducible refine Below.drew ?_ | with_reducible refine below_drewN ?_ _ | with_reducible refine below_alloc ?_ _ | with_reducible refine Below.alloc ?_ (by first | omega | (simp; done) | (simp; omega)) _ | with_reducible refine Below.setCell ?_ (by first | omega | (simp; done) | (simp; omega)) _ | with_reducible refine below_setRow ?_ (by first | omega | (simp; done) | (simp; omega)) _))
  have S1 : w1.heap[w.heap.size]? = some (.cells (arrS (fun _ => false)) 70 (0, 0)) := by rw [hw1]; exact (by (repeat (first | (with_reducible assumption) | (with_reducible exact alloc_at _ _) | ((with_reducible apply alloc_at'); (simp; done)) | (with_reducible apply alloc_at_lt) | (with_reducible apply heap_drew_at) | (with_reducible apply heap_drewN_at) | (with_reducible apply heap_setCell_same) | ((with_reducible apply heap_set_ne); (first | omega | (dsimp only; omega) | (simp; done) | (simp; omega))) | (with_reducible apply setRow_at) | ((with_reducible apply setRow_ne); (first | omega | (dsimp only; omega) | (simp; done) | (simp; omega))))))
  have HH1 := hid (HH.out.below b1)
  have HB1 := hid b1
  have HS1 : Hid (w.heap.size ≤ w1.heap.size) := b1.size
  obtain ⟨-, -, c2, -⟩ := HH1.out.cells (i := id) (by have := HID.out; omega)
  have hr := HH1.out.rw (2 * id + 1) (by have := HID.out; omega)
  obtain ⟨A, cap, eA⟩ := row_shape hr
  rw [eA] at c2 hr
  have HCL := hid (clone_row (cap := cap) (slz_row hr) (by have := HOK.out.chl id; unfold Gr.ch at this; omega))
  obtain ⟨S, hS⟩ : ∃ S, S = w.heap.size := ⟨_, rfl⟩
  rw [← hS] at S1 ⊢
  have HSN := hid S1
  have HSB : Hid (w.heap.size ≤ S) := by unfold Hid; omega
  clear hw1 b1 hr eA S1 hS
  go_wp2_with fail
  refine HCL.out.mono ?_
  rintro e w2 ⟨v', rfl, hrow, hb2⟩
  have HB2 := hid (HB1.out.trans (hb2.mono HS1.out))
  have HLW : Hid (Lw w.heap.size w2 S (.slice none 0 0) v' [] (G.ch id)) := ⟨by
      have := below_at hb2 (lt_of_at HSN.out) HSN.out
      simpa using this, World.ownsRow_nil _ _ _ _, row_base hrow HS1.out, (fun g hg => nomatch hg), HSB.out⟩
  have HBW := hid (Bw.start HOK.out id)
  obtain ⟨A7, cap7, rfl⟩ := row_shape hrow
  clear hrow hb2 HCL HH1 HSN c2 HB1
  go_wp2_with fail
  go_loopg [6, 7] (101 * 101 + 10300) (fun gk v6 v7 wr => ∃ (out todo : List Nat), Hid (Lw w.heap.size wr S v6 v7 out todo ∧ Bw G id out todo ∧ Below w.heap.size w wr) ∧ (101 - out.length) * 101 + todo.length ≤ gk)
  case atStart =>
    refine ⟨[], G.ch id, ⟨HLW.out, HBW.out, HB2.out⟩, ?_⟩
    have := HOK.out.chl id
    simp
    omega
  case round =>
    clear HLW HBW HB2
    obtain ⟨out, todo, HI, hgk⟩ := hrel
    rcases List.eq_nil_or_concat todo with rfl | ⟨t, x, rfl⟩
    · have hl := HI.out.1
      have hd := HI.out.2.1.done HOK.out
      have hn := HI.out.2.1.nd
      have hlen := HI.out.2.1.len HOK.out
      obtain ⟨A6, cap6, rfl⟩ := row_shape hl.o
      obtain ⟨A7', cap7', rfl⟩ := row_shape hl.t
      have HSO := hid (sort_row hl.o (by omega))
      have HB := hid HI.out.2.2
      have e1 := sort_pick hn hd
      have HE : Hid (out.length = (pick (G.Rch id)).length) := by
        have := congrArg List.length e1
        unfold Hid
        simpa using this
      have HE1 := hid e1
      have HO := hid hl.o
      clear hl hd hn hlen hgk HI e1
      go_wp2_with fail
      refine HSO.out.mono ?_
      rintro e w9 ⟨rfl, hrow, hg⟩
      have HROW := hid hrow
      have HB9 := hid (HB.out.trans (Tur.below (Tur.of_grown (F := fun b => (Value.slice A6 out.length cap6).ownBlock = some b) hg (fun g hg => .inl hg)) HB.out.size (fun k hk => (HO.out.lt k hk).1)))
      clear hrow hg HSO
      go_wp2
      go_ret
      refine ⟨⟨_, rfl, ?_⟩, HB9.out⟩
      rw [← HE.out]
      rw [rowD, ← HE1.out]
      exact HROW.out
    · rw [List.concat_eq_append] at HI hgk
      have hl := HI.out.1
      have hbw := HI.out.2.1
      have hx := (HOK.out.rch (hbw.r2 x (by simp))).2
      obtain ⟨A6, cap6, rfl⟩ := row_shape hl.o
      have htr : wr.ownsRow w.heap.size 2 1 u7 (t.length + 1) (rowZ (toZ t ++ [(x : Int)])) := by
        have := hl.t
        rw [List.length_append] at this
        rw [toZ_snoc]
        exact this
      obtain ⟨A7', cap7', rfl⟩ := row_shape htr
      have hpop := row_init htr
      obtain ⟨hpr, g7, rfl⟩ := hpop
      have cx : wr.cell? ⟨g7, t.length, none⟩ = some (.int .i64 (x : Int)) := by
        obtain ⟨g, cap, e, -, -, -, q⟩ := getD_row htr (by simp)
        injection e with e1 e2 e3
        injection e1 with e1
        injection e1 with e1
        subst e1
        rw [q t.length (by simp)]
        simp
      have cS : wr.cell? ⟨S, x, none⟩ = some (.bool (decide (x ∈ out))) := (blk_cell hl.sn x).trans (arrS_get _ (by omega))
      have cSf := blk_free hl.sn
      have hxi : (x : Int) < 101 := by omega
      have hcp : (t.length : Int) ≤ (cap7' : Int) := by have := row_cap htr; omega
      have hol := hbw.len HOK.out
      have htl : t.length + 1 ≤ 100 * (out.length + 1) := by have := hbw.lt; simpa using this
      have htb : (t.length : Int) ≤ 1048576 := by omega
      have HX := hid hx
      have HOL := hid hol
      have HTL := hid htl
      have HBW := hid hbw
      have HB := hid HI.out.2.2
      have HGK : Hid ((101 - out.length) * 101 + (t.length + 1) ≤ gk) := by unfold Hid; simpa using hgk
      have HO := hid hl.o
      have HT := hid hpr
      have HAP := hid hl.ap
      have HSN := hid hl.sn
      clear hl hbw hx htr hpr hol htl hgk HI
      cases hxo : decide (x ∈ out) with
      | true =>
        rw [hxo] at cS
        have HN := hid (HBW.out.skip (of_decide_eq_true hxo))
        have hgk : 1 ≤ gk := by have := HGK.out; omega
        have HR : Hid (Lw w.heap.size wr S (.slice A6 out.length cap6) (.slice (some ⟨g7, 0, none⟩) t.length cap7') out t) := ⟨HSN.out, HO.out, HT.out, HAP.out, HSB.out⟩
        clear hxo
        go_wp2
        go_roundg (gk - 1)
        case rel => exact ⟨out, t, ⟨HR.out, HN.out, HB.out⟩, by have := HGK.out; omega⟩
        case measure => omega
      | false =>
        rw [hxo] at cS
        have hxn : x ∉ out := of_decide_eq_false hxo
        have HN := hid (HBW.out.look HOK.out hxn)
        have hgk : 102 ≤ gk := by have := HGK.out; have := HOL.out; omega
        have HXN := hid hxn
        have hg7S : g7 ≠ S := row_neS HT.out HSN.out rfl
        have HL : Hid (Lw w.heap.size wr S (.slice A6 out.length cap6) (.slice (some ⟨g7, 0, none⟩) t.length cap7') out t) := ⟨HSN.out, HO.out, HT.out, HAP.out, HSB.out⟩
        obtain ⟨A8, cap8, w4, happ, hl4, hb4, hs4⟩ := mark_step (x := x) HL.out (by have := HX.out; omega) HB.out.size (by have := HOL.out; omega)
        have HAPP := hid happ
        have HL4 := hid hl4
        have HB4 := hid (HB.out.trans hb4)
        clear hxo hxn happ hl4 hb4 HL HO HT HAP HSN hs4
        go_upto_region 10 with (at_builtin; refine wpList_append_eq rfl _ _ _ rfl rfl rfl HAPP.out ?_)
        have HH4 := hid (HH.out.below HB4.out)
        obtain ⟨-, -, c2, -⟩ := HH4.out.cells (i := x) (by have := HX.out; omega)
        have hr := HH4.out.rw (2 * x + 1) (by have := HX.out; omega)
        obtain ⟨A2, cap2, eA⟩ := row_shape hr
        rw [eA] at c2 hr
        have hchl := HOK.out.chl x
        obtain ⟨A9, cap9, w5, happ2, hl5, hb5⟩ := more_step (cap2 := cap2) HL4.out (slz_row hr) HB4.out.size (by unfold Gr.ch at hchl; have := HTL.out; have := HOL.out; omega)
        have HAPP2 := hid happ2
        have HL5 := hid hl5
        have HB5 := hid (HB4.out.trans hb5)
        have HCL := hid hchl
        clear happ2 hl5 hb5 hr eA HL4 HH4 HAPP
        go_wp2_with (first | (at_builtin; refine wpList_append_eq rfl _ _ _ rfl rfl rfl HAPP2.out ?_))
        go_roundg (gk - 1)
        case rel =>
          have e1 : out.length + 1 = (out ++ [x]).length := by simp
          have e2 : t.length + (G.X (2 * x + 1)).length = (t ++ G.ch x).length := by rw [List.length_append]; rfl
          rw [e1, e2]
          refine ⟨out ++ [x], t ++ G.ch x, ⟨HL5.out, HN.out, HB5.out⟩, ?_⟩
          have := HGK.out
          have := HCL.out
          have := HOL.out
          rw [List.length_append, List.length_append]
          simp
          omega
        case measure => omega
end Go.Proofs.Ytolfioiccmmifaa
