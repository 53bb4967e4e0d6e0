/- Contract of chapter 10's Swap. -/
import Derived.Test.YtkplhobiciddoaaTim1
import Derived.Test.YtkplhobiciddoaaFlo
namespace Go.Proofs.Ytkplhobiciddoaa
open Go.RowKit
set_option maxHeartbeats 8000000 in
theorem swap_any {zn : Value} (B c n b : Nat) (v : Value) (l : List Al) (I : List UInt8 → Option Int) (i j : Nat) (w : World) (_hB : B ≤ w.heap.size) (h : ClkS B w c zn v (some b) l n I) (hx : Idx l I) (hz : ∀ x ∈ l, x.1.size ≤ maxLen) (hn : n ≤ 100000) (hm : l.length ≤ 100000) (hi : i < l.length) (hj : j < l.length) :
    Calls Try.prog 108 #[.agg #[.pointer (some ⟨c, 1, none⟩)], .int .i64 i, .int .i64 j] w fun e w' => e = .returned (.tuple #[]) ∧ ∃ I', ClkS B w' c zn v (some b) (sw l i j) n I' ∧ Idx (sw l i j) I' ∧ Tur (Foot c v (some b)) w w' := by
  obtain ⟨c0, c1, -⟩ := h.cell
  obtain ⟨g, cap, rfl, -, -, hgl, hgf, hcell⟩ := h.cells (by omega)
  obtain ⟨ci0, ci1⟩ := hcell i hi
  obtain ⟨cj0, cj1⟩ := hcell j hj
  have hlt := h.lt
  have hii : (i : Int) < l.length := by omega
  have hjj : (j : Int) < l.length := by omega
  have HI : Hid (i < l.length) := hi
  have HJ : Hid (j < l.length) := hj
  have HN : Hid (n ≤ 100000) := hn
  have HH := hid h
  have HX := hid hx
  have HZ := hid hz
  obtain ⟨⟨s, a⟩, hs⟩ : ∃ x, x = el l i := ⟨_, rfl⟩
  obtain ⟨⟨t, d⟩, ht⟩ : ∃ x, x = el l j := ⟨_, rfl⟩
  rw [← hs] at ci0 ci1
  rw [← ht] at cj0 cj1
  have HS := hid hs
  have HT := hid ht
  clear hs ht h hx hz hcell hn hm
  go_enter Try.func108, Try.ntmps108
  go_upto_region 1 with fail
  refine wp_name ?_
  intro w0 hw0
  have A0 : w0.heap[w.heap.size]? = some (.cells #[.pointer (some ⟨c, 1, none⟩)] 86 (0, 0)) := by rw [hw0]; exact (by (repeat (first | (with_reducible assumption) | (with_reducible exact alloc_at _ _) | ((with_reducible apply alloc_at'); (simp; done)) | (with_reducible apply alloc_at_lt) | (with_reducible apply heap_drew_at) | (with_reducible apply heap_drewN_at) | (with_reducible apply heap_setCell_same) | ((with_reducible apply heap_set_ne); (first | omega | (dsimp only; omega) | (simp; done) | (simp; omega))) | (with_reducible apply setRow_at) | ((with_reducible apply setRow_ne); (first | omega | (dsimp only; omega) | (simp; done) | (simp; omega))))))
  have B0 : Below w.heap.size w w0 := by rw [hw0]; exact (by repeat (first | with_reducible assumption | with_reducible exact Below.refl _ _ | with_reducible refine Below.drew ?_ | with_reducible refine below_drewN ?_ _ | with_reducible refine below_alloc ?_ _ | with_reducible refine Below.alloc ?_ (by first | omega | (simp; done) | (simp; omega)) _ | with_reducible refine Below.setCell ?_ (by first | omega | (simp; done) | (simp; omega)) _ | with_reducible refine below_setRow ?_ (by first | omega | (simp; done) | (simp; omega)) _))
  clear hw0
  have a0 : w0.cell? ⟨w.heap.size, 0, none⟩ = some (.pointer (some ⟨c, 1, none⟩)) := (blk_cell A0 0).trans rfl
  have l0 := lt_of_at A0
  have d0 : w0.cell? ⟨c, 1, none⟩ = some (.slice (some ⟨g, 0, none⟩) l.length cap) := (B0.cell (p := ⟨c, 1, none⟩) hlt).trans c0
  have di0 : w0.cell? ⟨g, i * 2, none⟩ = some (.string s) := (B0.cell (p := ⟨g, i * 2, none⟩) hgl).trans ci0
  have di1 : w0.cell? ⟨g, i * 2 + 1, none⟩ = some (.int .i64 a) := (B0.cell (p := ⟨g, i * 2 + 1, none⟩) hgl).trans ci1
  have dj0 : w0.cell? ⟨g, j * 2, none⟩ = some (.string t) := (B0.cell (p := ⟨g, j * 2, none⟩) hgl).trans cj0
  have dj1 : w0.cell? ⟨g, j * 2 + 1, none⟩ = some (.int .i64 d) := (B0.cell (p := ⟨g, j * 2 + 1, none⟩) hgl).trans cj1
  have df : ∀ i, w0.frozen? ⟨g, i, none⟩ = false := fun i => (B0.frozen (p := ⟨g, i, none⟩) hgl).trans (hgf i)
  have l1 : c < w0.heap.size := by have := B0.size; omega
  have l2 : g < w0.heap.size := by have := B0.size; omega
  clear c0 ci0 ci1 cj0 cj1 hgf
  go_cut [34] (fun s34 wx => s34 = .pointer (some ⟨g, i * 2, none⟩) ∧ ∃ w1, Below w0.heap.size w0 w1 ∧ wx = (((w1.setCell ⟨g, i * 2, none⟩ (.string t)).setCell ⟨g, i * 2 + 1, none⟩ (.int .i64 d)).setCell ⟨g, j * 2, none⟩ (.string s)).setCell ⟨g, j * 2 + 1, none⟩ (.int .i64 a))
  case first =>
    have ea : ∀ lx_ : Lat w0.heap.size w0, lx_.w.cell? ⟨w.heap.size, 0, none⟩ = some (.pointer (some ⟨c, 1, none⟩)) := fun lx_ => by rw [lx_.cell _ _ l0]; exact a0
    have ed : ∀ lx_ : Lat w0.heap.size w0, lx_.w.cell? ⟨c, 1, none⟩ = some (.slice (some ⟨g, 0, none⟩) l.length cap) := fun lx_ => by rw [lx_.cell _ _ l1]; exact d0
    have ei0 : ∀ lx_ : Lat w0.heap.size w0, lx_.w.cell? ⟨g, i * 2, none⟩ = some (.string s) := fun lx_ => by rw [lx_.cell _ _ l2]; exact di0
    have ei1 : ∀ lx_ : Lat w0.heap.size w0, lx_.w.cell? ⟨g, i * 2 + 1, none⟩ = some (.int .i64 a) := fun lx_ => by rw [lx_.cell _ _ l2]; exact di1
    have ej0 : ∀ lx_ : Lat w0.heap.size w0, lx_.w.cell? ⟨g, j * 2, none⟩ = some (.string t) := fun lx_ => by rw [lx_.cell _ _ l2]; exact dj0
    have ej1 : ∀ lx_ : Lat w0.heap.size w0, lx_.w.cell? ⟨g, j * 2 + 1, none⟩ = some (.int .i64 d) := fun lx_ => by rw [lx_.cell _ _ l2]; exact dj1
    refine wp_region_float1 (C := fun w' => ∃ x : Lat w0.heap.size w0, w' = x.w) 11 28 28 11 [0, 1, 2, 3, 4, 5, 6, 7, 8, 9, 10, 12, 13, 14, 15, 16, 17, 18, 19, 20, 21, 22, 23, 24, 25, 26, 27] (some 17) (.tmp 2) (by kernel_rfl) ⟨_, rfl, rfl, rfl, rfl⟩ (fun _ _ _ _ h => h) (by kernel_rfl) (by rfl) ⟨⟨w0.drew, (Below.refl _ _).drew⟩, rfl⟩ ?_
    simp only [List.take_succ_cons, List.take_zero, List.drop_succ_cons, List.drop_zero, List.eraseIdx_cons_succ, List.eraseIdx_cons_zero, Act.put, Act.eval, List.setIfInBounds_toArray, List.set_cons_zero, List.set_cons_succ]
    repeat (go_big_quiet_step (fail))
    refine wpQuiet_nil ?_
    clear ea ed ei0 ei1 ej0 ej1
    rintro w1 ⟨x1, hx1⟩
    have hb1 := x1.h
    rw [← hx1] at hb1
    clear hx1 x1
    have s1 := hb1.size
    have gi0 : w1.cell? ⟨g, i * 2, none⟩ = some (.string s) := (hb1.cell (p := ⟨g, i * 2, none⟩) l2).trans di0
    have gi1 : w1.cell? ⟨g, i * 2 + 1, none⟩ = some (.int .i64 a) := (hb1.cell (p := ⟨g, i * 2 + 1, none⟩) l2).trans di1
    have gj0 : w1.cell? ⟨g, j * 2, none⟩ = some (.string t) := (hb1.cell (p := ⟨g, j * 2, none⟩) l2).trans dj0
    have gj1 : w1.cell? ⟨g, j * 2 + 1, none⟩ = some (.int .i64 d) := (hb1.cell (p := ⟨g, j * 2 + 1, none⟩) l2).trans dj1
    have gf : ∀ i, w1.frozen? ⟨g, i, none⟩ = false := fun i => (hb1.frozen (p := ⟨g, i, none⟩) l2).trans (df i)
    clear di0 di1 dj0 dj1 df
    by_cases hij : i = j
    · subst hij
      go_wp2
      go_meet
      exact ⟨rfl, w1, hb1, rfl⟩
    · have n2 : ¬ i * 2 + 1 = j * 2 := by omega
      have n3 : ¬ i * 2 = j * 2 + 1 := by omega
      have n5 : ¬ j * 2 + 1 = i * 2 := by omega
      have n6 : ¬ j * 2 = i * 2 + 1 := by omega
      go_wp2
      go_meet
      exact ⟨rfl, w1, hb1, rfl⟩
  case rest =>
    obtain ⟨rfl, w1, hb1, hw⟩ := hcut
    obtain ⟨w2, rfl⟩ : ∃ wx_ : World, wx_ = wc := ⟨_, rfl⟩
    have s1 := hb1.size
    have s0 := B0.size
    have C1 := (HH.out.below B0).below hb1
    have P1 := C1.put (j := i) HI.out (t, d)
    have P2 := P1.put (j := j) (by rw [List.length_set]; exact HJ.out) (s, a)
    have C2 : ClkS B w2 c zn (.slice (some ⟨g, 0, none⟩) l.length cap) (some b) (sw l i j) n I := by
      rw [hw]
      have e : sw l i j = (l.set i (t, d)).set j (s, a) := by unfold sw; rw [← HS.out, ← HT.out]
      rw [e]; exact P2
    have F1 : Foot c (.slice (some ⟨g, 0, none⟩) l.length cap) (some b) g := .inr (.inl rfl)
    have T2 : Tur (Foot c (.slice (some ⟨g, 0, none⟩) l.length cap) (some b)) w w2 := by
      rw [hw]
      refine ((Tur.of_below (B0.trans (hb1.mono s0))).then ?_)
      exact (((Tur.set _ (.inl F1)).then (Tur.set _ (.inl F1))).then (Tur.set _ (.inl F1))).then (Tur.set _ (.inl F1))
    have A2 : w2.heap[w.heap.size]? = some (.cells #[.pointer (some ⟨c, 1, none⟩)] 86 (0, 0)) := by
      rw [hw]
      have hg : w.heap.size ≠ g := by omega
      exact heap_set_ne hg (heap_set_ne hg (heap_set_ne hg (heap_set_ne hg (below_at hb1 l0 A0))))
    clear hw P1 P2 C1 hb1 s1 a0 d0 di0 di1 dj0 dj1 df
    have hll : (sw l i j).length = l.length := sw_length _ _ _
    obtain ⟨c0, c1', -⟩ := C2.cell
    obtain ⟨g', cap', hv, -, -, hgl2, -, hcell⟩ := C2.cells (by omega)
    obtain ⟨rfl, rfl⟩ : g' = g ∧ cap' = cap := by
      injection hv with h1 h2 h3
      injection h1 with h1
      injection h1 with h1
      exact ⟨h1.symm, h3.symm⟩
    clear hv
    obtain ⟨p0, -⟩ := hcell i (by omega)
    obtain ⟨q0, -⟩ := hcell j (by omega)
    have hI' := (HX.out.swapped HI.out HJ.out)
    have zi : (el (sw l i j) i).1.size ≤ maxLen := HZ.out _ ((sw_perm HI.out HJ.out).mem_iff.1 (by rw [el_eq (by omega)]; exact List.getElem_mem _))
    have zj : (el (sw l i j) j).1.size ≤ maxLen := HZ.out _ ((sw_perm HI.out HJ.out).mem_iff.1 (by rw [el_eq (by omega)]; exact List.getElem_mem _))
    have ki : (I (el (sw l i j) i).1.data.toList).isSome = true := by
      have : I (el (sw l i j) i).1.data.toList = some (j : Int) := by
        rw [show el (sw l i j) i = el l j by rw [el_sw HI.out HJ.out]; split; (rename_i e; rw [e]); rw [if_pos rfl]]
        exact HX.out.at HJ.out
      rw [this]; rfl
    have kj : (I (el (sw l i j) j).1.data.toList).isSome = true := by
      have : I (el (sw l i j) j).1.data.toList = some (i : Int) := by
        rw [show el (sw l i j) j = el l i by rw [el_sw HI.out HJ.out, if_pos rfl]]
        exact HX.out.at HI.out
      rw [this]; rfl
    obtain ⟨x, hx⟩ : ∃ x, x = (el (sw l i j) i).1 := ⟨_, rfl⟩
    obtain ⟨y, hy⟩ : ∃ x, x = (el (sw l i j) j).1 := ⟨_, rfl⟩
    rw [← hx] at p0 zi ki hI'
    rw [← hy] at q0 zj kj hI'
    clear hx hy hcell
    have m2 := lt_of_at A2
    have mc := C2.lt
    have b0 : w2.cell? ⟨w.heap.size, 0, none⟩ = some (.pointer (some ⟨c, 1, none⟩)) := (blk_cell A2 0).trans rfl
    have ea : ∀ lx_ : Lat w2.heap.size w2, lx_.w.cell? ⟨w.heap.size, 0, none⟩ = some (.pointer (some ⟨c, 1, none⟩)) := fun lx_ => by rw [lx_.cell _ _ m2]; exact b0
    have ed : ∀ lx_ : Lat w2.heap.size w2, lx_.w.cell? ⟨c, 1, none⟩ = some (.slice (some ⟨g', 0, none⟩) l.length cap') := fun lx_ => by rw [lx_.cell _ _ mc]; exact c0
    have em : ∀ lx_ : Lat w2.heap.size w2, lx_.w.cell? ⟨c, 2, none⟩ = some (.map (some b)) := fun lx_ => by rw [lx_.cell _ _ mc]; exact c1'
    have ei0 : ∀ lx_ : Lat w2.heap.size w2, lx_.w.cell? ⟨g', i * 2, none⟩ = some (.string x) := fun lx_ => by rw [lx_.cell _ _ hgl2]; exact p0
    have ej0 : ∀ lx_ : Lat w2.heap.size w2, lx_.w.cell? ⟨g', j * 2, none⟩ = some (.string y) := fun lx_ => by rw [lx_.cell _ _ hgl2]; exact q0
    go_upto_region 2 with fail
    refine wp_region_float2 (C := fun w' => ∃ x : Lat w2.heap.size w2, w' = x.w) 28 29 30 28 28 [0, 1, 2, 3, 4, 5, 6, 7, 8, 9, 10, 11, 12, 13, 14, 15, 16, 17, 18, 19, 20, 21, 22, 23, 24, 25, 26, 27] (some 64) (some 65) (.tmp 1) (.tmp 2) (by kernel_rfl) ⟨_, rfl, rfl, rfl, rfl⟩ ⟨_, rfl, rfl, rfl, rfl⟩ (fun _ _ _ _ h => h) (fun _ _ _ _ h => h) (by kernel_rfl) (by rfl) ⟨⟨w2.drew, (Below.refl _ _).drew⟩, rfl⟩ ?_
    simp only [List.take_succ_cons, List.take_zero, List.drop_succ_cons, List.drop_zero, List.eraseIdx_cons_succ, List.eraseIdx_nil, Act.put, Act.eval, List.setIfInBounds_toArray, List.set_cons_zero, List.set_cons_succ]
    repeat (go_big_quiet_step (fail))
    refine wpQuiet_nil ?_
    clear ea ed em ei0 ej0
    rintro w3 ⟨x3, hx3⟩
    have hb3 := x3.h
    rw [← hx3] at hb3
    clear hx3 x3
    have C3 := C2.below hb3
    have M3 : OwnsM w3 Try.prog 9 mkI b n I := C3.map
    have hnm : n < maxLen := by have := HN.out; unfold maxLen; omega
    obtain ⟨v4, st4, w4, w5, E4, S5, M5, -, G5, z4, z5⟩ := M3.entry hnm zi (i : Int)
    rw [if_pos ki] at M5
    obtain ⟨v6, st6, w6, w7, E6, S7, M7, -, G7, z6, z7⟩ := M5.entry hnm zj (j : Int)
    have kj' : (putA I x.data.toList (i : Int) y.data.toList).isSome = true := by
      by_cases e : y.data.toList = x.data.toList
      · rw [e, putA_same]; rfl
      · rw [putA_other _ _ e]; exact kj
    rw [if_pos kj'] at M7
    clear zi zj hnm ki kj kj' c0 c1' p0 q0
    have HM7 := hid M7
    have HG5 := hid G5
    have HG7 := hid G7
    have HC3 := hid C3
    have HT2 := hid T2
    have HC2 := hid C2
    clear M3 M5 M7 G5 G7 C3 T2 C2 A2 b0
    go_wp2
    go_end0
    have T7 : Tur (Foot c (.slice (some ⟨g', 0, none⟩) l.length cap') (some b)) w3 w7 := (Tur.of_grown HG5.out (fun k e => by cases e; exact .inl (.inr (.inr rfl)))).then (Tur.of_grown HG7.out (fun k e => by cases e; exact .inl (.inr (.inr rfl))))
    refine ⟨rfl, _, ⟨HC3.out.le, ?_, ?_, HC3.out.mle, HM7.out⟩, hI', (HT2.out.then (Tur.of_below hb3)).then T7⟩
    · have hne : c ≠ b := (HC3.out.map_ne b rfl).1.symm
      have hc3 := HC3.out.lt
      rw [HG7.out.block c (by omega) (fun e => hne (by cases e; rfl)), HG5.out.block c (by omega) (fun e => hne (by cases e; rfl))]
      exact HC3.out.blk
    · refine ownsRow_at HC3.out.row (fun k hk => ?_)
      have hk3 := (HC3.out.row.lt k hk).2
      have hne : k ≠ b := fun e => (HC3.out.map_ne b rfl).2 (by rw [← e]; exact hk)
      rw [HG7.out.block k (by omega) (fun e => hne (by cases e; rfl)), HG5.out.block k (by omega) (fun e => hne (by cases e; rfl))]
end Go.Proofs.Ytkplhobiciddoaa
