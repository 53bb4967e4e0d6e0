/- Contract of the reference's Due of chapter 10. -/
import Derived.Test.YtacffoobeebleaaTimH
namespace Go.Proofs.Ytacffoobeebleaa
open Go.RowKit
/-- What the reference's Due leaves. -/
def RDue (B : Nat) (w w' : World) (R : Nat) (v : Value) (now : Int) (l : List Al) (e : Ending) : Prop :=
  ∃ vo v' out l', e = .returned vo ∧ RefK B w' R v' l' ∧ RowO w.heap.size w' vo out ∧ DueR now l out l' ∧ Sorted l' ∧ Tur (FootR R v) w w' ∧ ∀ k, FootR R v' k → FootR R v k ∨ w.heap.size ≤ k
set_option maxHeartbeats 2000000 in
theorem rdue_nil (B R : Nat) (now : Int) (w : World) (h : RefK B w R (.slice none 0 0) []) :
    Calls Try.prog 18 #[.pointer (some ⟨R, 0, none⟩), .int .i64 now] w fun e w' => RDue B w w' R (.slice none 0 0) now [] e := by
  obtain ⟨r0, rf⟩ := h.cell
  have hlR := h.lt
  obtain ⟨i0, hi, hz0, hz1, hz2⟩ := info_ar
  have happ : ∀ W, (Builtin.append_ #[44, 44] 44 #[.slice none 0 0, .slice none 0 0]).run Try.prog W = .ok (.slice none 0 0) W := fun W => run_append_nothing W 44 44 44 36 i0 Try.underlying44 hi none 0 0 (Nat.le_refl _) _ (Src.ofNil W Try.underlying44 0)
  have T4 : Tur (FootR R (.slice none 0 0)) w (w.setCell ⟨R, 0, none⟩ (.slice none 0 0)) := Tur.set _ (.inl (.inl rfl))
  have HFIN : Hid (RDue B w (w.setCell ⟨R, 0, none⟩ (.slice none 0 0)) R (.slice none 0 0) now [] (.returned (.slice none 0 0))) :=
    ⟨_, .slice none 0 0, [], [], rfl, (h.store (Tur.refl _ _) h.blk h.row (fun e => nomatch e)).1, .inl ⟨rfl, rfl⟩, ⟨.nil, (fun x => by simp), (fun x => by simp), rfl⟩, .nil, T4, fun _ h => .inl h⟩
  have H1 := hid happ
  clear happ h T4
  go_enter Try.func18, Try.ntmps18
  go_wp2
  refine wp_loop_rounds 1 ?_
  rw [rounds_succ]
  go_upto_region 6 with (at_builtin; refine wpList_append_eq rfl _ _ _ rfl rfl rfl (H1.out _) ?_)
  go_wp2
  go_ret
  exact HFIN.out
set_option maxRecDepth 20000 in
set_option maxHeartbeats 4000000 in
theorem rdue_row (B R g o cap : Nat) (l : List Al) (now : Int) (w : World) (h : RefK B w R (.slice (some ⟨g, o, none⟩) l.length cap) l) (hm : l.length ≤ 1024) (hs : Sorted l) :
    Calls Try.prog 18 #[.pointer (some ⟨R, 0, none⟩), .int .i64 now] w fun e w' => RDue B w w' R (.slice (some ⟨g, o, none⟩) l.length cap) now l e := by
  obtain ⟨r0, -⟩ := h.cell
  have hlR := h.lt
  have HH := hid h
  have HM : Hid (l.length ≤ 1024) := hm
  have HS := hid hs
  have hcap : l.length ≤ cap := by
    rcases h.row with ⟨e, -⟩ | ⟨g', o', cap', cur, e, -, -, -, h4, -⟩
    · cases e
    · cases e; exact h4
  have HCAP := hid hcap
  clear h hm hs hcap
  go_enter Try.func18, Try.ntmps18
  go_wp2
  go_loopw [5] (fun i wr => ∃ j : Nat, j ≤ l.length ∧ i = .int .i64 j ∧ Hid (Below w.heap.size w wr ∧ ∀ i, i < j → (el l i).2 ≤ now)) (fun i _ => l.length - (intOf i).toNat)
  case atStart => exact ⟨0, Nat.zero_le _, rfl, Below.refl _ _, fun i hi => absurd hi (Nat.not_lt_zero i)⟩
  case round =>
    obtain ⟨j, hj, rfl, hh⟩ := hrel
    have hb := hh.out.1
    have hlt := hid hh.out.2
    have r0r : wr.cell? ⟨R, 0, none⟩ = some (.slice (some ⟨g, o, none⟩) l.length cap) := (hb.cell (p := ⟨R, 0, none⟩) hlR).trans r0
    have hlRr : R < wr.heap.size := Nat.lt_of_lt_of_le hlR hb.size
    by_cases hjl : j < l.length
    · obtain ⟨g', o', cap', hv, -, -, hgl, -, hcell⟩ := HH.out.row.cells (by omega)
      cases hv
      have c1 : wr.cell? ⟨g, o + j * 2 + 1, none⟩ = some (.int .i64 (el l j).2) := (hb.cell (p := ⟨g, o + j * 2 + 1, none⟩) hgl).trans (hcell j hjl).2
      have hji : (j : Int) < l.length := by omega
      by_cases hnow : (el l j).2 ≤ now
      · have HJ : Hid (j + 1 ≤ l.length) := hjl
        have HN : Hid (Below w.heap.size w wr ∧ ∀ i, i < j + 1 → (el l i).2 ≤ now) := ⟨hb, fun i hi => by
          rcases Nat.lt_or_ge i j with h1 | h1
          · exact hlt.out i h1
          · have : i = j := by omega
            subst this; exact hnow⟩
        have iw : IntKind.i64.wrap ((j : Int) + 1) = (j : Int) + 1 := IntWalk.i64_in _ (by have := HM.out; omega)
        clear hb hcell hh hj hjl
        go_wp2
        go_roundw
        case rel => exact ⟨j + 1, HJ.out, by go_num, HN.out⟩
        case measure => have := HJ.out; simp [intOf]; omega
      · have HD : Hid (DueR now l (l.take j) (l.drop j)) := due_cut HS.out hj (fun i hi => hlt.out i hi) (fun _ => hnow)
        have hjc : j < cap := Nat.lt_of_lt_of_le hjl HCAP.out
        have hjci : (j : Int) ≤ (cap : Int) := by omega
        have hjli : (j : Int) ≤ (l.length : Int) := by omega
        have hjcn : j ≤ cap := by omega
        have hck' : ¬ cap - j = 0 := by omega
        clear hcell hh
        have h1 := HH.out.below hb
        have hlR1 := h1.lt
        obtain ⟨v1, w2, happ1, hrow2, hG2', hv1⟩ := app_om (B := w.heap.size) (m := j) (c := cap) (l' := l.take j) (W := wr) (v := .slice none 0 0) (l := []) (by simp; try omega) hb.size (.inl ⟨rfl, rfl⟩) (by simp; have := HM.out; omega) 44 ⟨g, o, none⟩ (by have := h1.row.part 0 j (by omega); simpa using this)
        have hG2 : wr.grownBy w2 none := hG2'
        rw [List.nil_append] at hrow2
        have hs2 := hG2.size
        have hs1 := hb.size
        have hR2 : w2.heap[R]? = some (.cells #[.slice (some ⟨g, o, none⟩) l.length cap] 46 (0, 0)) := (hG2.block R hlR1 (fun e => nomatch e)).trans h1.blk
        have hg2 : RowO B w2 (.slice (some ⟨g, o, none⟩) l.length cap) l := h1.row.at (fun i hi => hG2.block i (h1.row.lt i hi).2 (fun e => nomatch e))
        have T2 : Tur (FootR R (.slice (some ⟨g, o, none⟩) l.length cap)) w w2 := (Tur.of_below hb).then (Tur.of_grown hG2 (fun k e => nomatch e))
        have hrow3 : RowO B w2 (.slice (some ⟨g, o + j * 2, none⟩) (l.length - j) (cap - j)) (l.drop j) := hg2.drop j (by omega) hjc
        obtain ⟨RK, T4⟩ := HH.out.store T2 hR2 hrow3 (fun e => HH.out.own_ne (by injection e with e; rw [← e]; rfl))
        have hrow4 : RowO w.heap.size (w2.setCell ⟨R, 0, none⟩ (.slice (some ⟨g, o + j * 2, none⟩) (l.length - j) (cap - j))) v1 (l.take j) := hrow2.at (fun i hi => heap_setCell_other w2 ⟨R, 0, none⟩ i _ (fun e => by
          have e : i = R := e
          have := (hrow2.lt i hi).1
          have := HH.out.lt
          omega))
        obtain ⟨A1, c1, hv1s⟩ := hrow2.slice
        subst hv1s
        generalize hn1 : (l.take j).length = n1 at happ1 hrow4
        have HFIN : Hid (∃ vo v' out l', Ending.returned (.slice A1 n1 c1) = .returned vo ∧ RefK B (w2.setCell ⟨R, 0, none⟩ (.slice (some ⟨g, o + j * 2, none⟩) (l.length - j) (cap - j))) R v' l' ∧ RowO w.heap.size (w2.setCell ⟨R, 0, none⟩ (.slice (some ⟨g, o + j * 2, none⟩) (l.length - j) (cap - j))) vo out ∧ DueR now l out l' ∧ Sorted l' ∧ Tur (FootR R (.slice (some ⟨g, o, none⟩) l.length cap)) w (w2.setCell ⟨R, 0, none⟩ (.slice (some ⟨g, o + j * 2, none⟩) (l.length - j) (cap - j))) ∧ ∀ k, FootR R v' k → FootR R (.slice (some ⟨g, o, none⟩) l.length cap) k ∨ w.heap.size ≤ k) := ⟨_, _, _, _, rfl, RK, hrow4, HD.out, HS.out.sublist (List.drop_sublist _ l), T4, fun i hi => by
          rcases hi with rfl | hi
          · exact .inl (.inl rfl)
          · exact .inl (.inr (by injection hi with hi; rw [← hi]; rfl))⟩
        have r1 : wr.cell? ⟨R, 0, none⟩ = some (.slice (some ⟨g, o, none⟩) l.length cap) := h1.cell.1
        have r2 : w2.cell? ⟨R, 0, none⟩ = some (.slice (some ⟨g, o, none⟩) l.length cap) := (blk_cell hR2 0).trans rfl
        have rf2 := blk_free hR2
        have hlR2 := lt_of_at hR2
        have H1 := hid happ1
        clear happ1 hrow2 hrow3 hrow4 hG2 hG2' hv1 hR2 hg2 T2 T4 RK h1 hn1 hs1 hs2
        go_upto_region 6 with (at_builtin; refine wpList_append_eq rfl _ _ _ rfl rfl rfl H1.out ?_)
        go_wp2
        go_ret
        exact HFIN.out
    · obtain rfl : j = l.length := by omega
      have HD : Hid (DueR now l (l.take l.length) (l.drop l.length)) := due_cut HS.out (Nat.le_refl _) (fun i hi => hlt.out i hi) (fun h => absurd h (Nat.lt_irrefl _))
      have hjci : (l.length : Int) ≤ (cap : Int) := by have := HCAP.out; omega
      have hjcn : l.length ≤ cap := HCAP.out
      clear hh
      by_cases hck : cap = l.length
      · subst hck
        have h1 := HH.out.below hb
        have hlR1 := h1.lt
        obtain ⟨v1, w2, happ1, hrow2, hG2', hv1⟩ := app_om (B := w.heap.size) (m := l.length) (c := l.length) (l' := l.take l.length) (W := wr) (v := .slice none 0 0) (l := []) (by simp; try omega) hb.size (.inl ⟨rfl, rfl⟩) (by simp; have := HM.out; omega) 44 ⟨g, o, none⟩ (by have := h1.row.part 0 l.length (by omega); simpa using this)
        have hG2 : wr.grownBy w2 none := hG2'
        rw [List.nil_append] at hrow2
        have hs2 := hG2.size
        have hs1 := hb.size
        have hR2 : w2.heap[R]? = some (.cells #[.slice (some ⟨g, o, none⟩) l.length l.length] 46 (0, 0)) := (hG2.block R hlR1 (fun e => nomatch e)).trans h1.blk
        have hg2 : RowO B w2 (.slice (some ⟨g, o, none⟩) l.length l.length) l := h1.row.at (fun i hi => hG2.block i (h1.row.lt i hi).2 (fun e => nomatch e))
        have T2 : Tur (FootR R (.slice (some ⟨g, o, none⟩) l.length l.length)) w w2 := (Tur.of_below hb).then (Tur.of_grown hG2 (fun k e => nomatch e))
        have hrow3 : RowO B w2 (.slice (some ⟨g, o, none⟩) 0 0) (l.drop l.length) := by rw [List.drop_length]; exact hg2.empty
        obtain ⟨RK, T4⟩ := HH.out.store T2 hR2 hrow3 (fun e => HH.out.own_ne (by injection e with e; rw [← e]; rfl))
        have hrow4 : RowO w.heap.size (w2.setCell ⟨R, 0, none⟩ (.slice (some ⟨g, o, none⟩) 0 0)) v1 (l.take l.length) := hrow2.at (fun i hi => heap_setCell_other w2 ⟨R, 0, none⟩ i _ (fun e => by
          have e : i = R := e
          have := (hrow2.lt i hi).1
          have := HH.out.lt
          omega))
        obtain ⟨A1, c1, hv1s⟩ := hrow2.slice
        subst hv1s
        generalize hn1 : (l.take l.length).length = n1 at happ1 hrow4
        have HFIN : Hid (∃ vo v' out l', Ending.returned (.slice A1 n1 c1) = .returned vo ∧ RefK B (w2.setCell ⟨R, 0, none⟩ (.slice (some ⟨g, o, none⟩) 0 0)) R v' l' ∧ RowO w.heap.size (w2.setCell ⟨R, 0, none⟩ (.slice (some ⟨g, o, none⟩) 0 0)) vo out ∧ DueR now l out l' ∧ Sorted l' ∧ Tur (FootR R (.slice (some ⟨g, o, none⟩) l.length l.length)) w (w2.setCell ⟨R, 0, none⟩ (.slice (some ⟨g, o, none⟩) 0 0)) ∧ ∀ k, FootR R v' k → FootR R (.slice (some ⟨g, o, none⟩) l.length l.length) k ∨ w.heap.size ≤ k) := ⟨_, _, _, _, rfl, RK, hrow4, HD.out, HS.out.sublist (List.drop_sublist _ l), T4, fun i hi => by
          rcases hi with rfl | hi
          · exact .inl (.inl rfl)
          · exact .inl (.inr (by injection hi with hi; rw [← hi]; rfl))⟩
        have r1 : wr.cell? ⟨R, 0, none⟩ = some (.slice (some ⟨g, o, none⟩) l.length l.length) := h1.cell.1
        have r2 : w2.cell? ⟨R, 0, none⟩ = some (.slice (some ⟨g, o, none⟩) l.length l.length) := (blk_cell hR2 0).trans rfl
        have rf2 := blk_free hR2
        have hlR2 := lt_of_at hR2
        have H1 := hid happ1
        clear happ1 hrow2 hrow3 hrow4 hG2 hG2' hv1 hR2 hg2 T2 T4 RK h1 hn1 hs1 hs2
        go_upto_region 6 with (at_builtin; refine wpList_append_eq rfl _ _ _ rfl rfl rfl H1.out ?_)
        go_wp2
        go_ret
        exact HFIN.out
      · have hck' : ¬ cap - l.length = 0 := by omega
        have h1 := HH.out.below hb
        have hlR1 := h1.lt
        obtain ⟨v1, w2, happ1, hrow2, hG2', hv1⟩ := app_om (B := w.heap.size) (m := l.length) (c := cap) (l' := l.take l.length) (W := wr) (v := .slice none 0 0) (l := []) (by simp; try omega) hb.size (.inl ⟨rfl, rfl⟩) (by simp; have := HM.out; omega) 44 ⟨g, o, none⟩ (by have := h1.row.part 0 l.length (by omega); simpa using this)
        have hG2 : wr.grownBy w2 none := hG2'
        rw [List.nil_append] at hrow2
        have hs2 := hG2.size
        have hs1 := hb.size
        have hR2 : w2.heap[R]? = some (.cells #[.slice (some ⟨g, o, none⟩) l.length cap] 46 (0, 0)) := (hG2.block R hlR1 (fun e => nomatch e)).trans h1.blk
        have hg2 : RowO B w2 (.slice (some ⟨g, o, none⟩) l.length cap) l := h1.row.at (fun i hi => hG2.block i (h1.row.lt i hi).2 (fun e => nomatch e))
        have T2 : Tur (FootR R (.slice (some ⟨g, o, none⟩) l.length cap)) w w2 := (Tur.of_below hb).then (Tur.of_grown hG2 (fun k e => nomatch e))
        have hrow3 : RowO B w2 (.slice (some ⟨g, o + l.length * 2, none⟩) 0 (cap - l.length)) (l.drop l.length) := by have := hg2.drop l.length (Nat.le_refl _) (by omega); rwa [Nat.sub_self] at this
        obtain ⟨RK, T4⟩ := HH.out.store T2 hR2 hrow3 (fun e => HH.out.own_ne (by injection e with e; rw [← e]; rfl))
        have hrow4 : RowO w.heap.size (w2.setCell ⟨R, 0, none⟩ (.slice (some ⟨g, o + l.length * 2, none⟩) 0 (cap - l.length))) v1 (l.take l.length) := hrow2.at (fun i hi => heap_setCell_other w2 ⟨R, 0, none⟩ i _ (fun e => by
          have e : i = R := e
          have := (hrow2.lt i hi).1
          have := HH.out.lt
          omega))
        obtain ⟨A1, c1, hv1s⟩ := hrow2.slice
        subst hv1s
        generalize hn1 : (l.take l.length).length = n1 at happ1 hrow4
        have HFIN : Hid (∃ vo v' out l', Ending.returned (.slice A1 n1 c1) = .returned vo ∧ RefK B (w2.setCell ⟨R, 0, none⟩ (.slice (some ⟨g, o + l.length * 2, none⟩) 0 (cap - l.length))) R v' l' ∧ RowO w.heap.size (w2.setCell ⟨R, 0, none⟩ (.slice (some ⟨g, o + l.length * 2, none⟩) 0 (cap - l.length))) vo out ∧ DueR now l out l' ∧ Sorted l' ∧ Tur (FootR R (.slice (some ⟨g, o, none⟩) l.length cap)) w (w2.setCell ⟨R, 0, none⟩ (.slice (some ⟨g, o + l.length * 2, none⟩) 0 (cap - l.length))) ∧ ∀ k, FootR R v' k → FootR R (.slice (some ⟨g, o, none⟩) l.length cap) k ∨ w.heap.size ≤ k) := ⟨_, _, _, _, rfl, RK, hrow4, HD.out, HS.out.sublist (List.drop_sublist _ l), T4, fun i hi => by
          rcases hi with rfl | hi
          · exact .inl (.inl rfl)
          · exact .inl (.inr (by injection hi with hi; rw [← hi]; rfl))⟩
        have r1 : wr.cell? ⟨R, 0, none⟩ = some (.slice (some ⟨g, o, none⟩) l.length cap) := h1.cell.1
        have r2 : w2.cell? ⟨R, 0, none⟩ = some (.slice (some ⟨g, o, none⟩) l.length cap) := (blk_cell hR2 0).trans rfl
        have rf2 := blk_free hR2
        have hlR2 := lt_of_at hR2
        have H1 := hid happ1
        clear happ1 hrow2 hrow3 hrow4 hG2 hG2' hv1 hR2 hg2 T2 T4 RK h1 hn1 hs1 hs2
        go_upto_region 6 with (at_builtin; refine wpList_append_eq rfl _ _ _ rfl rfl rfl H1.out ?_)
        go_wp2
        go_ret
        exact HFIN.out
end Go.Proofs.Ytacffoobeebleaa
