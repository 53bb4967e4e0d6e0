/- Chapter 8's Insert and Pop over the heap in memory. -/
import Derived.Test.YteccpjijlkjneaaFbI
namespace Go.Proofs.Yteccpjijlkjneaa
open Go.RowKit
variable {B H g cap : Nat} {w w' : World} {s s' : Hp} {least n : Int}
theorem entC_one (k : K3) : ∀ u ∈ entC k, u.oneCell' = true := by
  intro u h
  simp only [entC, List.mem_cons, List.not_mem_nil, or_false] at h
  rcases h with rfl | rfl | rfl | rfl | rfl | rfl | rfl | rfl | rfl | rfl <;> rfl
theorem Good.nn (h : Good s least n) : 0 ≤ n ∧ n ≤ (s.m : Int) := by
  obtain ⟨-, h1, -⟩ := h
  have := List.countP_le_length (p := s.th) (l := List.range s.m)
  rw [List.length_range] at this
  omega
set_option maxRecDepth 100000 in
set_option maxHeartbeats 8000000 in
theorem insert_ok {v : Value} (k : K3) (h : HeapV B w H v s least n) (hg : Good s least n) (hk : okK k) (hm : s.m < 1048576) :
    Calls Try.prog 23 #[.pointer (some ⟨H, 0, none⟩), .agg #[.int .u64 k.1, .int .u64 k.2.1, .int .i64 k.2.2]] w fun e w' => e = .returned (.tuple #[.int .i64 s.m, .int .i64 0]) ∧
      ∃ v' s' least', HeapV B w' H v' s' least' (n + 1) ∧ Good s' least' (n + 1) ∧ SameK (s.insS k) s' ∧ GrowV w H v v' ∧ Tur (FootV H v) w w' := by
  have hgi := hg.insert hk hm
  have hnn := hg.nn
  obtain ⟨-, -, kids, L, hF, hR⟩ := hg
  have hlt : ∀ z ∈ L, z < s.m := fun z hz => hF.ltm z (hF.lth z hz).1
  have hsp : least = 0 ∨ ∃ y r : Nat, least = (y : Int) + 1 ∧ y < (s.insS k).m ∧ r < (s.insS k).m ∧ (s.insS k).rt y = (r : Int) ∧ s.m ≠ y ∧ s.m ≠ r ∧ okK ((s.insS k).key y) := by
    rcases hR.spot with ⟨e, -⟩ | ⟨y, t, eR, el, r, hr, hrt⟩
    · exact .inl e
    · rw [← eR] at hr
      have hyL : y ∈ L := by rw [eR]; simp
      have hy := hlt y hyL
      have hr2 := hlt r hr
      refine .inr ⟨y, r, el, Nat.lt_succ_of_lt hy, Nat.lt_succ_of_lt hr2, ?_, by omega, by omega, ?_⟩
      · show up s.rt s.m 0 y = _
        rw [up_ne _ _ (by omega)]
        exact hrt
      · show okK (up s.key s.m k y)
        rw [up_ne _ _ (by omega)]
        exact hF.okk y (hF.lth y hyL).1
  have HSP := hid hsp
  have HGI := hid hgi
  have HK := hid hk
  have HM := hid hm
  have HV := hid h
  clear hF hR hsp hgi hlt
  obtain ⟨A, capv, rfl⟩ : ∃ A capv, v = .slice A s.m capv := by
    obtain ⟨-, ⟨rfl, h0⟩ | ⟨g, cap, cur, rfl, _⟩⟩ := h.row
    · exact ⟨none, 0, by rw [h0]⟩
    · exact ⟨_, cap, rfl⟩
  obtain ⟨m, hme⟩ : ∃ m, m = s.m := ⟨_, rfl⟩
  have HME := hid hme
  obtain ⟨k0, k1, k2⟩ := k
  have c0 : w.cell? ⟨H, 0, none⟩ = some (.slice A s.m capv) := (blk_cell h.blk 0).trans rfl
  have hlH := h.ltH
  have hk1 : (k1 == 0) = false := by simp; have := hk.2; simp only at this; omega
  have hml : ¬ ((1048576 : Int) ≤ (m : Int)) := by omega
  rw [← hme] at c0 ⊢
  simp only
  clear h hk hm hme kids L
  go_enter Try.func23, Try.ntmps23
  go_upto_region 8 with fail
  refine wp_name ?_
  intro w2 hw2
  have X2 : w2.heap[w.heap.size]? = some (.cells #[.int .u64 k0, .int .u64 k1, .int .i64 k2] 60 (0, 0)) := by rw [hw2]; exact (by (repeat (first | (with_reducible assumption) | (with_reducible exact alloc_at _ _) | ((with_reducible apply alloc_at'); (simp; done)) | (with_reducible apply alloc_at_lt) | (with_reducible apply heap_drew_at) | (with_reducible apply heap_drewN_at) | (with_reducible apply heap_setCell_same) | ((with_reducible apply heap_set_ne); (first | omega | (dsimp only; omega) | (simp; done) | (simp; omega))) | (with_reducible apply setRow_at) | ((with_reducible apply setRow_ne); (first | omega | (dsimp only; omega) | (simp; done) | (simp; omega))))))
  have B2 : Below w.heap.size w w2 := by rw [hw2]; exact (by repeat (first | with_reducible assumption | with_reducible exact Below.refl _ _ | with_reducible refine Below.drew ?_ | with_reducible refine below_drewN ?_ _ | with_reducible refine below_alloc ?_ _ | with_reducible refine Below.alloc ?_ (by first | omega | (simp; done) | (simp; omega)) _ | with_reducible refine Below.setCell ?_ (by first | omega | (simp; done) | (simp; omega)) _ | with_reducible refine below_setRow ?_ (by first | omega | (simp; done) | (simp; omega)) _))
  have HX2 := hid (HV.out.below B2)
  have HB2 := hid B2
  have s2 := lt_of_at X2
  have sH := HX2.out.ltH
  clear hw2 c0 B2
  obtain ⟨i0, hi, hz0, hz1, hz2⟩ := info_parts infoEn
  obtain ⟨g, cap, w4, happ, hown, hG4, hat, hgl⟩ := run_append_lies (P := Try.prog) (w := (w2.alloc (.cells #[.int .u64 k0, .int .u64 k1, .int .i64 k2, .int .i64 (-1), .int .i64 (-1), .int .i64 0, .int .i64 0, .int .i64 0, .bool false, .bool true] 82)).drew) 76 76 B 82 i0 _ 10 72 Try.underlying76 hi hz0 hz1 hz2 rfl (by omega)
    (.slice A s.m capv) s.m (flatH s) (HX2.out.row.alloc _).drew ⟨w2.heap.size, 0, none⟩ 1 1 (entC (k0, k1, k2)) rfl (World.news_of_block (heap_drew_at (alloc_at w2 _))) (entC_one _) (by omega) (by unfold maxLen; have := HM.out; omega) (by have := HM.out; omega) (by have := HX2.out.le; simp; omega) (w2.heap.size + 1) (by simp)
  rw [← flatH_ins] at hown
  rw [← HME.out] at happ
  have hgH : g ≠ H := by
    rcases hat with e | e
    · intro e2
      subst e2
      obtain ⟨-, ⟨h3, h4⟩ | ⟨g', cap', cur, h3, -, hh, -⟩⟩ := HX2.out.row
      · rw [h3] at e; cases e
      · rw [h3] at e
        injection e with e
        simp only at e
        rw [e, HX2.out.blk] at hh
        injection hh with hh
        injection hh with _ h5
        exact absurd h5 (by decide)
    · omega
  have hvH : some H ≠ (Value.slice A s.m capv).ownBlock := by
    intro e
    obtain ⟨-, ⟨h3, h4⟩ | ⟨g', cap', cur, h3, -, hh, -⟩⟩ := HX2.out.row
    · rw [h3] at e; cases e
    · rw [h3] at e
      injection e with e
      simp only at e
      rw [← e, HX2.out.blk] at hh
      injection hh with hh
      injection hh with _ h5
      exact absurd h5 (by decide)
  have H4 : w4.heap[H]? = some (.cells #[.slice A s.m capv, .int .i64 least, .int .i64 n] 78 (0, 0)) := (hG4.block H (by simp; omega) hvH).trans (heap_drew_at (alloc_at_lt HX2.out.blk _))
  have HG5 : Hid (HeapG B (w4.setCell ⟨H, 0, none⟩ (.slice (some ⟨g, 0, none⟩) (m + 1) cap)) H g cap (s.insS (k0, k1, k2)) least n) := by
    refine ⟨HV.out.hB, at_of ⟨_, heap_setCell_same _ _ _ _ _ _ H4, ?_⟩, ?_⟩
    · rw [HME.out]
      simp
      rfl
    · obtain ⟨h3, h4 | ⟨g', cap', cur, h5, hg', hh, rest⟩⟩ := hown
      · exact absurd h4.2 (by omega)
      · cases h5
        exact ⟨h3, .inr ⟨g, cap, cur, rfl, hg', heap_set_ne hgH hh, rest⟩⟩
  have HT5 : Hid (Tur (FootV H (.slice A s.m capv)) w (w4.setCell ⟨H, 0, none⟩ (.slice (some ⟨g, 0, none⟩) (m + 1) cap))) := by
    have t1 : Tur (FootV H (.slice A s.m capv)) w w2 := Tur.of_below HB2.out
    have t2 : Tur (FootV H (.slice A s.m capv)) w2 (w2.alloc (.cells #[.int .u64 k0, .int .u64 k1, .int .i64 k2, .int .i64 (-1), .int .i64 (-1), .int .i64 0, .int .i64 0, .int .i64 0, .bool false, .bool true] 82)).drew := Tur.of_below (by repeat (first | with_reducible assumption | with_reducible exact Below.refl _ _ | with_reducible refine Below.drew ?_ | with_reducible refine below_drewN ?_ _ | with_reducible refine below_alloc ?_ _ | with_reducible refine Below.alloc ?_ (by first | omega | (simp; done) | (simp; omega)) _ | with_reducible refine Below.setCell ?_ (by first | omega | (simp; done) | (simp; omega)) _ | with_reducible refine below_setRow ?_ (by first | omega | (simp; done) | (simp; omega)) _))
    exact ((t1.then t2).then (Tur.of_grown hG4 (fun g hg => .inl (.inr hg)))).then (Tur.set _ (.inl (.inl rfl)))
  have HGR : Hid (GrowV w H (.slice A s.m capv) (.slice (some ⟨g, 0, none⟩) (s.insS (k0, k1, k2)).m cap)) := by
    rintro k (rfl | e)
    · exact .inl (.inl rfl)
    · injection e with e
      simp only at e
      subst e
      rcases hat with e | e
      · exact .inl (.inr e)
      · right; have := HB2.out.size; omega
  have c0 : w2.cell? ⟨H, 0, none⟩ = some (.slice A m capv) := by rw [HME.out]; exact (blk_cell HX2.out.blk 0).trans rfl
  have cf := blk_free HX2.out.blk
  have x0 : w2.cell? ⟨w.heap.size, 0, none⟩ = some (.int .u64 k0) := (blk_cell X2 0).trans rfl
  have x1 : w2.cell? ⟨w.heap.size, 1, none⟩ = some (.int .u64 k1) := (blk_cell X2 1).trans rfl
  have x2 : w2.cell? ⟨w.heap.size, 2, none⟩ = some (.int .i64 k2) := (blk_cell X2 2).trans rfl
  have d0 : w4.cell? ⟨H, 0, none⟩ = some (.slice A s.m capv) := (blk_cell H4 0).trans rfl
  have df := blk_free H4
  have HAPP := hid happ
  clear happ hown hG4 hat hgl hvH X2 H4 hi hz0 hz1 hz2
  go_region_law (refine step_append_eq rfl (.tmp 31) (.tmp 34) 76 rfl (v := .slice A m capv) (y := .slice (some ⟨w2.heap.size, 0, none⟩) 1 1) (by simp [Act.eval]) (by simp [Act.eval]) HAPP.out ?_)
  all_goals
    clear x0 x1 x2 c0 cf d0 df
    go_wp2_with fail
    refine (root_g m (HG5.out.at rfl rfl) (by rw [HME.out]; exact Nat.lt_succ_self _) (by have := HM.out; exact this) (by rw [HME.out]; show okK (up s.key s.m (k0, k1, k2) s.m); rw [up_same]; exact HK.out) (by rw [HME.out]; exact HSP.out)).mono ?_
    rintro e w6 ⟨rfl, h6, t6⟩
    have HT6 : Hid (Tur (FootV H (.slice A m capv)) w w6) := by
      rw [HME.out]
      refine HT5.out.trans t6 ?_
      rintro i (rfl | rfl)
      · exact .inl (.inl rfl)
      · exact HGR.out i (.inr rfl)
    have HFIN : Hid (Good ((s.insS (k0, k1, k2)).rootS least m) ((s.insS (k0, k1, k2)).rootL least m) (n + 1)) := by rw [HME.out]; exact HGI.out
    have HSK : Hid (SameK (s.insS (k0, k1, k2)) ((s.insS (k0, k1, k2)).rootS least m)) := by
      obtain ⟨e1, e2, e3, -, -⟩ := Hp.rootS_same (s.insS (k0, k1, k2)) least m
      exact ⟨e1, e2, e3⟩
    have HGR2 : Hid (GrowV w H (.slice A m capv) (.slice (some ⟨g, 0, none⟩) ((s.insS (k0, k1, k2)).rootS least m).m cap)) := by
      rw [HME.out]
      rintro i (e | e)
      · exact .inl (.inl e)
      · exact HGR.out i (.inr e)
    obtain ⟨-, -, q2, qf⟩ := h6.head
    have H6 := hid h6
    have nb : n ≤ 1048576 := by have := hnn.2; have := HM.out; omega
    have nn := hnn.1
    clear h6 t6 hnn
    go_wp2
    go_ret2
    exact ⟨rfl, _, _, _, (H6.out.setN (n + 1)).toV, HFIN.out, HSK.out, HGR2.out, HT6.out.then (Tur.set _ (.inl (.inl rfl)))⟩
end Go.Proofs.Yteccpjijlkjneaa
