/- Chapter 8's reference heap: Meld. -/
import Derived.Test.YthdbiablpkeagaaRfF
namespace Go.Proofs.Ythdbiablpkeagaa
open Go.RowKit
variable {B H O g cap : Nat} {w w' : World} {s s' o : Hp} {v u : Value}
/-- The other heap's row is set to none. -/
theorem RefV.emptied (h : RefV B w O u o) : RefV B (w.setCell ⟨O, 0, none⟩ (.slice none 0 0)) O (.slice none 0 0) hp0 :=
  ⟨h.hB, at_of ⟨_, heap_setCell_same _ _ _ _ _ _ h.blk, by simp⟩, World.ownsRow_nil _ _ _ _⟩
theorem RefV.off {p d : Nat} {x : Value} (h : RefV B w H v s) (hp : ¬ FootV H v p) : RefV B (w.setCell ⟨p, d, none⟩ x) H v s :=
  h.at fun k hk => heap_setCell_other w ⟨p, d, none⟩ k x (fun e => hp (by
    have e2 : k = p := e
    rw [← e2]; exact hk))
theorem RefV.sc (h : RefV B w O u o) (hm : 0 < o.m) : ∃ g cap, u = .slice (some ⟨g, 0, none⟩) o.m cap ∧ ∀ j x, (flatR o)[j]? = some x → w.cell? ((⟨g, 0, none⟩ : Addr).add j) = some x := by
  obtain ⟨g, cap, e, hc⟩ := h.row.form hm
  subst e
  refine ⟨g, cap, rfl, fun j x hx => ?_⟩
  obtain ⟨-, ⟨h3, -⟩ | ⟨g', cap', cur, h3, hg, hh, -, -, -, ht⟩⟩ := h.row
  · cases h3
  · cases h3
    have e0 : (⟨g, 0, none⟩ : Addr).add j = ⟨g, j, none⟩ := by unfold Addr.add; split <;> simp_all
    rw [e0, blk_cell hh]
    rw [← ht, List.getElem?_take] at hx
    split at hx
    · simpa using hx
    · cases hx
theorem cat_none (s o : Hp) (h : o.m = 0) : flatR (s.cat o) = flatR s ∧ (s.cat o).m = s.m := by
  refine ⟨?_, by show s.m + o.m = s.m; omega⟩
  rw [flatR_cat, show flatR o = [] from List.eq_nil_of_length_eq_zero (by rw [flatR_length, h])]
  simp
theorem RefV.restored (h : RefV B w H v s) : RefV B (w.setCell ⟨H, 0, none⟩ v) H v s := by
  refine ⟨h.hB, at_of ⟨_, heap_setCell_same _ _ _ _ _ _ h.blk, by simp⟩, ?_⟩
  obtain ⟨h3, h4 | ⟨g', cap', cur, h5, hg, hh, rest⟩⟩ := h.row
  · exact ⟨h3, .inl h4⟩
  · have hne : g' ≠ H := fun e => h.ownNe (by rw [h5, ← e]; rfl)
    exact ⟨h3, .inr ⟨g', cap', cur, h5, hg, heap_set_ne hne hh, rest⟩⟩
theorem RefV.of_flat (h : RefV B w H v s) (hm : s'.m = s.m) (hf : flatR s' = flatR s) : RefV B w H v s' := ⟨h.hB, h.blk, by rw [hm, hf]; exact h.row⟩
/-- The rows are put together: what append makes, and what is there behind both stores. -/
theorem meld_row {W : World} {A A2 : Option Addr} {capv capu : Nat} (hW : RefV B W H (.slice A s.m capv) s) (kW : RefV B W O (.slice A2 o.m capu) o) (hm : s.m + o.m ≤ 1048576) (hHO : H ≠ O) (hap : ∀ i, FootV O (.slice A2 o.m capu) i → ¬ FootV H (.slice A s.m capv) i) (hle : s.m ≤ capv) :
    ∃ A4 cap w4, (Builtin.append_ #[54, 54] 54 #[.slice A s.m capv, .slice A2 o.m capu]).run Try.prog W = .ok (.slice A4 (s.m + o.m) cap) w4 ∧
      w4.heap[H]? = some (.cells #[.slice A s.m capv] 56 (0, 0)) ∧ w4.heap[O]? = some (.cells #[.slice A2 o.m capu] 56 (0, 0)) ∧
      RefV B ((w4.setCell ⟨H, 0, none⟩ (.slice A4 (s.m + o.m) cap)).setCell ⟨O, 0, none⟩ (.slice none 0 0)) H (.slice A4 (s.m + o.m) cap) (s.cat o) ∧
      RefV B ((w4.setCell ⟨H, 0, none⟩ (.slice A4 (s.m + o.m) cap)).setCell ⟨O, 0, none⟩ (.slice none 0 0)) O (.slice none 0 0) hp0 ∧
      Tur (fun i => FootV H (.slice A s.m capv) i ∨ i = O) W ((w4.setCell ⟨H, 0, none⟩ (.slice A4 (s.m + o.m) cap)).setCell ⟨O, 0, none⟩ (.slice none 0 0)) ∧
      GrowV W H (.slice A s.m capv) (.slice A4 (s.m + o.m) cap) := by
  have hOf : ¬ FootV H (.slice A s.m capv) O := hap O (.inl rfl)
  have hHf : ¬ FootV O (.slice A2 o.m capu) H := fun q => hap H q (.inl rfl)
  by_cases h0 : o.m = 0
  · obtain ⟨i0, z0, hi, hz0, hz1, hz2, hz3⟩ := infoRE2
    have hcat := cat_none s o h0
    have hsrc : Src Try.prog i0.size 54 (.slice A2 o.m capu) 0 [] W := by
      rw [h0]
      cases A2 with
      | none => exact Src.ofNil W Try.underlying54 capu
      | some a => exact Src.ofSlice W Try.underlying54 a 0 capu [] (by simp) (fun j u h => by simp at h) (fun u h => nomatch h)
    have happ := run_append_nothing (P := Try.prog) W 54 54 54 89 i0 Try.underlying54 hi A s.m capv hle _ hsrc
    have e0 : s.m + o.m = s.m := by omega
    rw [e0]
    refine ⟨A, capv, W, happ, hW.blk, kW.blk, ?_, ?_, ?_, fun k hk => .inl hk⟩
    · exact (hW.restored.off hOf).of_flat hcat.2 hcat.1
    · exact (kW.off hHf).emptied
    · exact (Tur.set _ (.inl (.inl (.inl rfl)))).then (Tur.set _ (.inl (.inr rfl)))
  · obtain ⟨g2, cap2, e, hcells⟩ := kW.sc (by omega)
    injection e with e e7 e6
    subst e
    subst e6
    obtain ⟨g, cap, w4, happ, H4, hR5, hT5, hGR⟩ := app_stepR (c := capu) (s2 := s.cat o) hW ⟨g2, 0, none⟩ (flatR o) (m := o.m) (flatR_length o) hcells (flatR_one o) (by omega) rfl (flatR_cat s o) (by omega)
    have hO4 : w4.heap[O]? = some (.cells #[.slice (some ⟨g2, 0, none⟩) o.m capu] 56 (0, 0)) := by
      have q := (hT5.kept O kW.ltH hOf).trans kW.blk
      rw [heap_setCell_other w4 ⟨H, 0, none⟩ O _ (Ne.symm hHO)] at q
      exact q
    have hO5 : RefV B (w4.setCell ⟨H, 0, none⟩ (.slice (some ⟨g, 0, none⟩) (s.m + o.m) cap)) O (.slice (some ⟨g2, 0, none⟩) o.m capu) o := kW.at fun k hk => hT5.kept k (by
      rcases hk with rfl | e
      · exact kW.ltH
      · exact (kW.row.lt k e).2) (hap k hk)
    refine ⟨some ⟨g, 0, none⟩, cap, w4, happ, H4, hO4, ?_, hO5.emptied, ?_, hGR⟩
    · refine hR5.off fun q => ?_
      rcases hGR O q with q2 | q2
      · exact hOf q2
      · have := kW.ltH; omega
    · exact (hT5.mono (fun k hk => .inl (.inl hk))).then (Tur.set _ (.inl (.inr rfl)))
theorem RefV.le_cap {A : Option Addr} {n : Nat} (h : RefV B w H (.slice A n cap) s) : n ≤ cap := by
  obtain ⟨-, ⟨h3, h4⟩ | ⟨g', cap', cur, h3, -, -, hle, -⟩⟩ := h.row
  · injection h3 with _ e1 e2; omega
  · injection h3 with _ e1 e2; omega
theorem infoRH : ∃ j, Try.prog.info? 56 = some j ∧ j.size ≠ 0 := by
  have h : (Try.prog.info? 56).map (·.size) = some 1 := by kernel_rfl
  cases e : Try.prog.info? 56 with
  | none => rw [e] at h; cases h
  | some j =>
    rw [e] at h
    have h2 : j.size = 1 := by simpa using h
    exact ⟨j, rfl, by omega⟩
set_option maxRecDepth 100000 in
set_option maxHeartbeats 8000000 in
theorem rmeld_ok (h : RefV B w H v s) (k : RefV B w O u o) (hm : s.m + o.m ≤ 1048576) (hHO : H ≠ O) (hap : ∀ i, FootV O u i → ¬ FootV H v i) :
    Calls Try.prog 39 #[.pointer (some ⟨H, 0, none⟩), .pointer (some ⟨O, 0, none⟩)] w fun e w' => e = .returned (.tuple #[.int .i64 s.m, .int .i64 0]) ∧
      ∃ v', RefV B w' H v' (s.cat o) ∧ RefV B w' O (.slice none 0 0) hp0 ∧ GrowV w H v v' ∧ Tur (fun i => FootV H v i ∨ i = O) w w' := by
  have HV := hid h
  have KV := hid k
  have HM := hid hm
  have HAP := hid hap
  have hOH : ¬ O = H := Ne.symm hHO
  obtain ⟨A, capv, rfl⟩ := h.shape
  obtain ⟨A2, capu, rfl⟩ := k.shape
  have c0 := h.head.1
  have d0 := k.head.1
  have lH := h.ltH
  have lO := k.ltH
  obtain ⟨m, hme⟩ : ∃ m, m = s.m := ⟨_, rfl⟩
  obtain ⟨q, hqe⟩ : ∃ q, q = o.m := ⟨_, rfl⟩
  have HME := hid hme
  have HQE := hid hqe
  have hml : ¬ ((1048576 : Int) < (m : Int) + (q : Int)) := by omega
  have hmb : (m : Int) ≤ 1048576 := by omega
  have hqb : (q : Int) ≤ 1048576 := by omega
  have iw : IntKind.i64.wrap ((m : Int) + (q : Int)) = (m : Int) + (q : Int) := IntWalk.i64_in _ (by omega)
  rw [← hme] at c0 ⊢
  rw [← hqe] at d0
  clear h k hm hap hme hqe
  go_enter Try.func39, Try.ntmps39
  go_upto_region 1 with (fail)
  go_region_held3 (fun w' => w'.cell? ⟨H, 0, none⟩ = some (.slice A m capv) ∧ w'.cell? ⟨O, 0, none⟩ = some (.slice A2 q capu)) (go_keep) (fail)
  all_goals
    go_upto_region 4 with (fail)
    refine wp_name ?_
    intro w2 hw2
    have B2 : Below w.heap.size w w2 := by rw [hw2]; exact (by repeat (first | with_reducible assumption | with_reducible exact Below.refl _ _ | with_reducible refine Below.drew ?_ | with_reducible refine below_drewN ?_ _ | with_reducible refine below_alloc ?_ _ | with_reducible refine Below.alloc ?_ (by first | omega | (simp; done) | (simp; omega)) _ | with_reducible refine Below.setCell ?_ (by first | omega | (simp; done) | (simp; omega)) _ | with_reducible refine below_setRow ?_ (by first | omega | (simp; done) | (simp; omega)) _))
    have HV2 := hid (HV.out.below B2)
    have KV2 := hid (KV.out.below B2)
    have HB2 := hid B2
    obtain ⟨A4, cap4, w4, happ, H4, O4, hR5, hE5, hT5, hGR⟩ := meld_row (HV2.out.below (w' := w2.drew) (by repeat (first | with_reducible assumption | with_reducible exact Below.refl _ _ | with_reducible refine Below.drew ?_ | with_reducible refine below_drewN ?_ _ | with_reducible refine below_alloc ?_ _ | with_reducible refine Below.alloc ?_ (by first | omega | (simp; done) | (simp; omega)) _ | with_reducible refine Below.setCell ?_ (by first | omega | (simp; done) | (simp; omega)) _ | with_reducible refine below_setRow ?_ (by first | omega | (simp; done) | (simp; omega)) _))) (KV2.out.below (w' := w2.drew) (by repeat (first | with_reducible assumption | with_reducible exact Below.refl _ _ | with_reducible refine Below.drew ?_ | with_reducible refine below_drewN ?_ _ | with_reducible refine below_alloc ?_ _ | with_reducible refine Below.alloc ?_ (by first | omega | (simp; done) | (simp; omega)) _ | with_reducible refine Below.setCell ?_ (by first | omega | (simp; done) | (simp; omega)) _ | with_reducible refine below_setRow ?_ (by first | omega | (simp; done) | (simp; omega)) _))) HM.out hHO HAP.out HV.out.le_cap
    rw [← HME.out, ← HQE.out] at happ hR5 hE5 hT5 hGR
    have c0 : w2.cell? ⟨H, 0, none⟩ = some (.slice A m capv) := by rw [HME.out]; exact HV2.out.head.1
    have cf := blk_free HV2.out.blk
    have d0 : w2.cell? ⟨O, 0, none⟩ = some (.slice A2 q capu) := by rw [HQE.out]; exact KV2.out.head.1
    have df := blk_free KV2.out.blk
    have xf := blk_free H4
    have yf := blk_free O4
    have x0 : w4.cell? ⟨H, 0, none⟩ = some (.slice A m capv) := by rw [HME.out]; exact (blk_cell H4 0).trans rfl
    have y0 : w4.cell? ⟨O, 0, none⟩ = some (.slice A2 q capu) := by rw [HQE.out]; exact (blk_cell O4 0).trans rfl
    have HF : Hid (RefV B ((w4.setCell ⟨H, 0, none⟩ (.slice A4 (m + q) cap4)).setCell ⟨O, 0, none⟩ (.slice none 0 0)) H (.slice A4 (m + q) cap4) (s.cat o) ∧ RefV B ((w4.setCell ⟨H, 0, none⟩ (.slice A4 (m + q) cap4)).setCell ⟨O, 0, none⟩ (.slice none 0 0)) O (.slice none 0 0) hp0 ∧ GrowV w H (.slice A m capv) (.slice A4 (m + q) cap4) ∧ Tur (fun i => FootV H (.slice A m capv) i ∨ i = O) w ((w4.setCell ⟨H, 0, none⟩ (.slice A4 (m + q) cap4)).setCell ⟨O, 0, none⟩ (.slice none 0 0))) := by
      refine ⟨hR5, hE5, fun i hi => ?_, ((Tur.of_below HB2.out).then (Tur.drew_ _ _)).then hT5⟩
      rcases hGR i hi with q | q
      · exact .inl q
      · right; have := HB2.out.size; simp at q; omega
    have HAPP := hid happ
    clear happ hR5 hE5 hT5 hGR H4 O4 hw2 B2 HV KV HV2 KV2
    go_region_law (refine step_append_eq rfl (.tmp 28) (.tmp 32) 54 rfl (v := .slice A m capv) (y := .slice A2 q capu) (by simp [Act.eval]) (by simp [Act.eval]) HAPP.out ?_)
    all_goals
      clear c0 cf d0 df HAPP
      go_wp2
      go_ret2
      exact ⟨rfl, _, HF.out⟩
end Go.Proofs.Ythdbiablpkeagaa
