/- Chapter 8's Meld over the heaps in memory. -/
import Derived.Test.YthdbiablpkeagaaFbS
import Derived.Test.YthdbiablpkeagaaFbU
import Derived.LaidEqlPtr
namespace Go.Proofs.Ythdbiablpkeagaa
open Go.RowKit
variable {B H O g cap : Nat} {w w' : World} {s o : Hp} {least n ol on : Int}
/-- The first j of o's entries are behind those of s. -/
def Hp.catN (s o : Hp) (j : Nat) : Hp := { s.cat o with m := s.m + j }
theorem flat_catN0 (s o : Hp) : flatH (s.catN o 0) = flatH s := by
  unfold flatH
  refine List.map_congr_left fun j hj => ?_
  have hj2 : j < s.m * 10 := by simpa [Hp.catN] using hj
  have hlt : j / 10 < s.m := by omega
  have q := cat_lo s o hlt
  unfold cellH Hp.catN
  simp only [q.1, q.2.1, q.2.2.1, q.2.2.2.1, q.2.2.2.2.1, q.2.2.2.2.2.1, q.2.2.2.2.2.2.1, q.2.2.2.2.2.2.2]
/-- The cells of o's entry j, its relatives' handles moved. -/
def cellsO (s o : Hp) (j : Nat) : List Value := [.int .u64 (o.key j).1, .int .u64 (o.key j).2.1, .int .i64 (o.key j).2.2, .int .i64 (shP s.m (o.par j)), .int .i64 (shP s.m (o.ch j)), .int .i64 (shA s.m (o.lf j)), .int .i64 (shA s.m (o.rt j)), .int .i64 (o.dg j), .bool (o.mr j), .bool (o.th j)]
theorem cellsO_one (s o : Hp) (j : Nat) : ∀ u ∈ cellsO s o j, u.oneCell' = true := by
  intro u h
  simp only [cellsO, List.mem_cons, List.not_mem_nil, or_false] at h
  rcases h with rfl | rfl | rfl | rfl | rfl | rfl | rfl | rfl | rfl | rfl <;> rfl
theorem flat_catN (s o : Hp) (j : Nat) : flatH (s.catN o (j + 1)) = flatH (s.catN o j) ++ cellsO s o j := by
  have hc : ∀ i c, cellH (s.catN o (j + 1)) i c = cellH (s.catN o j) i c := fun i c => rfl
  refine List.ext_getElem? fun k => ?_
  have m1 : (s.catN o (j + 1)).m = s.m + (j + 1) := rfl
  have m0 : (s.catN o j).m = s.m + j := rfl
  by_cases hk : k < (s.m + j) * 10
  · have e := flatH_at (s.catN o j) (i := k / 10) (c := k % 10) (by rw [m0]; omega) (by omega)
    have e' := flatH_at (s.catN o (j + 1)) (i := k / 10) (c := k % 10) (by rw [m1]; omega) (by omega)
    rw [show k / 10 * 10 + k % 10 = k by omega] at e e'
    rw [List.getElem?_append_left (by rw [flatH_length, m0]; exact hk), e, e', hc]
  · by_cases hk2 : k < (s.m + (j + 1)) * 10
    · have e' := flatH_at (s.catN o (j + 1)) (i := s.m + j) (c := k - (s.m + j) * 10) (by rw [m1]; omega) (by omega)
      rw [show (s.m + j) * 10 + (k - (s.m + j) * 10) = k by omega] at e'
      rw [List.getElem?_append_right (by rw [flatH_length, m0]; omega), flatH_length, m0, e']
      obtain ⟨c, hcc, hc2⟩ : ∃ c, c = k - (s.m + j) * 10 ∧ c < 10 := ⟨_, rfl, by omega⟩
      rw [← hcc]
      have q := cat_hi s o j
      rw [Nat.add_comm s.m j]
      unfold cellH Hp.catN cellsO
      match c, hc2 with
      | 0, _ | 1, _ | 2, _ | 3, _ | 4, _ | 5, _ | 6, _ | 7, _ | 8, _ | 9, _ => simp [q.1, q.2.1, q.2.2.1, q.2.2.2.1, q.2.2.2.2.1, q.2.2.2.2.2.1, q.2.2.2.2.2.2.1, q.2.2.2.2.2.2.2]
    · rw [List.getElem?_eq_none (by rw [flatH_length, m1]; omega), List.getElem?_eq_none (by rw [List.length_append, flatH_length, m0]; simp [cellsO]; omega)]
theorem GrowV.trans' {w w2 : World} {v v2 v3 : Value} (h : GrowV w H v v2) (k : GrowV w2 H v2 v3) (hs : w.heap.size ≤ w2.heap.size) : GrowV w H v v3 := fun i hi => by
  rcases k i hi with q | q
  · exact h i q
  · exact .inr (Nat.le_trans hs q)
/-- One entry is appended, and the slice stored. -/
theorem app_step {W : World} {A : Option Addr} {capv : Nat} {sN s2 : Hp} (hW : HeapV B W H (.slice A sN.m capv) sN least n) (cs : Array Value) (hlen : cs.toList.length = 10) (h1 : ∀ u ∈ cs.toList, u.oneCell' = true) (hm2 : s2.m = sN.m + 1) (hfl : flatH s2 = flatH sN ++ cs.toList) (hb : sN.m < 1048577) :
    ∃ g cap w4, (Builtin.append_ #[64, 64] 64 #[.slice A sN.m capv, .slice (some ⟨W.heap.size, 0, none⟩) 1 1]).run Try.prog (W.alloc (.cells cs 69)).drew = .ok (.slice (some ⟨g, 0, none⟩) (sN.m + 1) cap) w4 ∧
      w4.heap[H]? = some (.cells #[.slice A sN.m capv, .int .i64 least, .int .i64 n] 66 (0, 0)) ∧ HeapG B (w4.setCell ⟨H, 0, none⟩ (.slice (some ⟨g, 0, none⟩) (sN.m + 1) cap)) H g cap s2 least n ∧ Tur (FootV H (.slice A sN.m capv)) W (w4.setCell ⟨H, 0, none⟩ (.slice (some ⟨g, 0, none⟩) (sN.m + 1) cap)) ∧
      GrowV W H (.slice A sN.m capv) (.slice (some ⟨g, 0, none⟩) s2.m cap) := by
  have sH := hW.ltH
  obtain ⟨i0, hi, hz0, hz1, hz2⟩ := info_parts infoEn
  obtain ⟨g, cap, w4, happ, hown, hG4, hat, hgl⟩ := run_append_lies (P := Try.prog) (w := (W.alloc (.cells cs 69)).drew) 64 64 B 69 i0 _ 10 72 Try.underlying64 hi hz0 hz1 hz2 rfl (by omega)
    (.slice A sN.m capv) sN.m (flatH sN) (hW.row.alloc _).drew ⟨W.heap.size, 0, none⟩ 1 1 cs.toList (by omega) (World.news_of_block (heap_drew_at (alloc_at W _))) h1 (by omega) (by unfold maxLen; omega) (by omega) (by have := hW.le; simp; omega) (W.heap.size + 1) (by simp)
  rw [← hfl] at hown
  have hgH : g ≠ H := by
    rcases hat with e | e
    · intro e2
      subst e2
      obtain ⟨-, ⟨h3, h4⟩ | ⟨g', cap', cur, h3, -, hh, -⟩⟩ := hW.row
      · rw [h3] at e; cases e
      · rw [h3] at e
        injection e with e
        simp only at e
        rw [e, hW.blk] at hh
        injection hh with hh
        injection hh with _ h5
        exact absurd h5 (by decide)
    · omega
  have hvH : some H ≠ (Value.slice A sN.m capv).ownBlock := by
    intro e
    obtain ⟨-, ⟨h3, h4⟩ | ⟨g', cap', cur, h3, -, hh, -⟩⟩ := hW.row
    · rw [h3] at e; cases e
    · rw [h3] at e
      injection e with e
      simp only at e
      rw [← e, hW.blk] at hh
      injection hh with hh
      injection hh with _ h5
      exact absurd h5 (by decide)
  have H4 : w4.heap[H]? = some (.cells #[.slice A sN.m capv, .int .i64 least, .int .i64 n] 66 (0, 0)) := (hG4.block H (by simp; omega) hvH).trans (heap_drew_at (alloc_at_lt hW.blk _))
  refine ⟨g, cap, w4, happ, H4, ⟨hW.hB, at_of ⟨_, heap_setCell_same _ _ _ _ _ _ H4, ?_⟩, ?_⟩, ?_, ?_⟩
  · rw [hm2]; simp
  · rw [hm2]
    obtain ⟨h3, h4 | ⟨g', cap', cur, h5, hg', hh, rest⟩⟩ := hown
    · exact absurd h4.2 (by omega)
    · cases h5
      exact ⟨h3, .inr ⟨g, cap, cur, rfl, hg', heap_set_ne hgH hh, rest⟩⟩
  · have t2 : Tur (FootV H (.slice A sN.m capv)) W (W.alloc (.cells cs 69)).drew := Tur.of_below (by repeat (first | with_reducible assumption | with_reducible exact Below.refl _ _ | with_reducible refine Below.drew ?_ | with_reducible refine below_drewN ?_ _ | with_reducible refine below_alloc ?_ _ | with_reducible refine Below.alloc ?_ (by first | omega | (simp; done) | (simp; omega)) _ | with_reducible refine Below.setCell ?_ (by first | omega | (simp; done) | (simp; omega)) _ | with_reducible refine below_setRow ?_ (by first | omega | (simp; done) | (simp; omega)) _))
    exact (t2.then (Tur.of_grown hG4 (fun g hg => .inl (.inr hg)))).then (Tur.set _ (.inl (.inl rfl)))
  · rintro k (rfl | e)
    · exact .inl (.inl rfl)
    · injection e with e
      simp only at e
      subst e
      rcases hat with e | e
      · exact .inl (.inr e)
      · exact .inr (by omega)
theorem HeapV.setN_ {v : Value} (h : HeapV B w H v s least n) (z : Int) : HeapV B (w.setCell ⟨H, 2, none⟩ (.int .i64 z)) H v s least z := by
  refine ⟨h.hB, at_of ⟨_, heap_setCell_same _ _ _ _ _ _ h.blk, by simp⟩, ?_⟩
  obtain ⟨h3, h4 | ⟨g', cap', cur, h5, hg, hh, rest⟩⟩ := h.row
  · exact ⟨h3, .inl h4⟩
  · have hne : g' ≠ H := fun e => by
      rw [e, h.blk] at hh
      injection hh with hh
      injection hh with _ h6
      exact absurd h6 (by decide)
    exact ⟨h3, .inr ⟨g', cap', cur, h5, hg, heap_set_ne hne hh, rest⟩⟩
theorem HeapV.setL_ {v : Value} (h : HeapV B w H v s least n) (z : Int) : HeapV B (w.setCell ⟨H, 1, none⟩ (.int .i64 z)) H v s z n := by
  refine ⟨h.hB, at_of ⟨_, heap_setCell_same _ _ _ _ _ _ h.blk, by simp⟩, ?_⟩
  obtain ⟨h3, h4 | ⟨g', cap', cur, h5, hg, hh, rest⟩⟩ := h.row
  · exact ⟨h3, .inl h4⟩
  · have hne : g' ≠ H := fun e => by
      rw [e, h.blk] at hh
      injection hh with hh
      injection hh with _ h6
      exact absurd h6 (by decide)
    exact ⟨h3, .inr ⟨g', cap', cur, h5, hg, heap_set_ne hne hh, rest⟩⟩
theorem HeapV.setO_ {p d : Nat} {v u : Value} (h : HeapV B w H v s least n) (hp : ¬ FootV H v p) : HeapV B (w.setCell ⟨p, d, none⟩ u) H v s least n :=
  h.at fun k hk => heap_setCell_other w ⟨p, d, none⟩ k u (fun e => hp (by
    have e2 : k = p := e
    rw [← e2]; exact hk))
theorem infoHp : ∃ j, Try.prog.info? 66 = some j ∧ j.size ≠ 0 := by
  have h : (Try.prog.info? 66).map (·.size) = some 3 := by kernel_rfl
  cases e : Try.prog.info? 66 with
  | none => rw [e] at h; cases h
  | some j =>
    rw [e] at h
    have h2 : j.size = 3 := by simpa using h
    exact ⟨j, rfl, by omega⟩
set_option maxRecDepth 100000 in
set_option maxHeartbeats 8000000 in
theorem meld_ok {v u : Value} (h : HeapV B w H v s least n) (k : HeapV B w O u o ol on) (hg : Good s least n) (kg : Good o ol on) (hm : s.m + o.m ≤ 1048576) (hHO : H ≠ O) (hap : ∀ i, FootV O u i → ¬ FootV H v i) :
    Calls Try.prog 15 #[.pointer (some ⟨H, 0, none⟩), .pointer (some ⟨O, 0, none⟩)] w fun e w' => e = .returned (.tuple #[.int .i64 s.m, .int .i64 0]) ∧
      ∃ v', HeapV B w' H v' (s.catS least o ol) (s.catL least o ol) (n + on) ∧ Good (s.catS least o ol) (s.catL least o ol) (n + on) ∧ HeapV B w' O (.slice none 0 0) hp0 0 0 ∧ GrowV w H v v' ∧ Tur (fun i => FootV H v i ∨ i = O) w w' := by
  obtain ⟨hgm, hsp⟩ := hg.meld kg hm
  have hnn := hg.nn
  have knn := kg.nn
  have HGM := hid hgm
  have HKG := hid kg
  have HSP := hid hsp
  have HM := hid hm
  have HV := hid h
  have KV := hid k
  have HAP := hid hap
  have hOH : ¬ O = H := Ne.symm hHO
  obtain ⟨A, capv, rfl⟩ : ∃ A capv, v = .slice A s.m capv := by
    obtain ⟨-, ⟨rfl, h0⟩ | ⟨g, cap, cur, rfl, _⟩⟩ := h.row
    · exact ⟨none, 0, by rw [h0]⟩
    · exact ⟨_, cap, rfl⟩
  obtain ⟨A2, capu, rfl⟩ : ∃ A2 capu, u = .slice A2 o.m capu := by
    obtain ⟨-, ⟨rfl, h0⟩ | ⟨g, cap, cur, rfl, _⟩⟩ := k.row
    · exact ⟨none, 0, by rw [h0]⟩
    · exact ⟨_, cap, rfl⟩
  have c0 : w.cell? ⟨H, 0, none⟩ = some (.slice A s.m capv) := (blk_cell h.blk 0).trans rfl
  have d0 : w.cell? ⟨O, 0, none⟩ = some (.slice A2 o.m capu) := (blk_cell k.blk 0).trans rfl
  have hptr : (binOp .eql 24 (.pointer (some ⟨H, 0, none⟩)) (.pointer (some ⟨O, 0, none⟩))).run Try.prog w = .ok (.bool false) w := by
    obtain ⟨j, hj, hjs⟩ := infoHp
    exact run_eql_ptr_other w Try.underlying24 hj hjs (by intro e; injection e with e; exact hHO e) h.blk k.blk
  obtain ⟨m, hme⟩ : ∃ m, m = s.m := ⟨_, rfl⟩
  obtain ⟨q, hqe⟩ : ∃ q, q = o.m := ⟨_, rfl⟩
  have HME := hid hme
  have HQE := hid hqe
  have hml : ¬ ((1048576 : Int) < (m : Int) + (q : Int)) := by omega
  have hmb : (m : Int) ≤ 1048576 := by omega
  have hqb : (q : Int) ≤ 1048576 := by omega
  have iw : IntKind.i64.wrap ((m : Int) + (q : Int)) = (m : Int) + (q : Int) := IntWalk.i64_in _ (by omega)
  rw [← hme] at c0 ⊢
  rw [← hqe] at d0
  clear h k hg kg hm hap hgm hsp hme hqe
  go_enter Try.func15, Try.ntmps15
  go_upto_region 3 with (fail)
  go_region_held3 (fun w' => w'.cell? ⟨H, 0, none⟩ = some (.slice A m capv) ∧ w'.cell? ⟨O, 0, none⟩ = some (.slice A2 q capu)) (go_keep) (fail)
  all_goals
    go_wp2_with fail
    refine wp_name ?_
    intro w2 hw2
    have e2 : w2.heap = w.heap := by rw [hw2]; rfl
    have HL0 : Hid (HeapV B w2 H (.slice A m capv) (s.catN o 0) least n ∧ GrowV w H (.slice A m capv) (.slice A m capv) ∧ Tur (FootV H (.slice A m capv)) w w2) := by
      refine ⟨⟨HV.out.hB, ?_, ?_⟩, fun k hk => .inl hk, by rw [hw2]; exact Tur.drew_ _ _⟩
      · rw [e2, HME.out]; exact HV.out.blk
      · rw [flat_catN0, hw2, HME.out]; exact HV.out.row.drew
    clear hw2 e2 c0 d0 hptr
    go_loopw [49] (fun i wr => ∃ (j : Nat) (v' : Value), j ≤ q ∧ i = .int .i64 j ∧ Hid (HeapV B wr H v' (s.catN o j) least n ∧ GrowV w H (.slice A m capv) v' ∧ Tur (FootV H (.slice A m capv)) w wr)) (fun i _ => q - (intOf i).toNat)
    case atStart => exact ⟨0, _, Nat.zero_le _, rfl, HL0⟩
    case round =>
      clear HL0
      obtain ⟨j, v', hj, rfl, HQ⟩ := hrel
      by_cases hjq : j < q
      · have HK1 : Hid (j + 1 ≤ q) := hjq
        have HMS : Hid (q - (j + 1) < q - j) := by unfold Hid; omega
        have hji : (j : Int) < (q : Int) := by omega
        have hjm : j < o.m := by have := HQE.out; omega
        obtain ⟨g2, cap2, e, hG2⟩ := KV.out.open_ (by omega)
        injection e with e e7 e6
        subst e
        subst e6
        clear e7
        have hkeep : ∀ i, FootV O (.slice (some ⟨g2, 0, none⟩) o.m capu) i → wr.heap[i]? = w.heap[i]? := fun i hi => HQ.out.2.2.kept i (by
          rcases hi with rfl | hi
          · exact KV.out.ltH
          · exact (KV.out.row.lt i hi).2) (by rw [HME.out]; exact HAP.out i hi)
        have hG2r : HeapG B wr O g2 capu o ol on := hG2.at (hkeep O (.inl rfl)) (hkeep g2 (.inr rfl))
        obtain ⟨y0, y1, y2, y3, y4, y5, y6, y7, y8, y9⟩ := hG2r.cells hjm
        have hlw := hG2r.ltg
        have HQ1 := hid HQ.out.1
        have HSH : Hid (cellsO s o j = [.int .u64 (o.key j).1, .int .u64 (o.key j).2.1, .int .i64 (o.key j).2.2, .int .i64 (shP m (o.par j)), .int .i64 (shP m (o.ch j)), .int .i64 (wrap64 (o.lf j + m)), .int .i64 (wrap64 (o.rt j + m)), .int .i64 (o.dg j), .bool (o.mr j), .bool (o.th j)]) := by
          rw [HME.out]; rfl
        generalize o.key j = k at y0 y1 y2 HSH
        generalize o.par j = xp at y3 HSH
        generalize o.ch j = xc at y4 HSH
        generalize o.lf j = xl at y5 HSH
        generalize o.rt j = xr at y6 HSH
        generalize o.dg j = xd at y7 HSH
        generalize o.mr j = xm at y8 HSH
        generalize o.th j = xt at y9 HSH
        obtain ⟨k0, k1, k2⟩ := k
        simp only at y0 y1 y2 HSH
        clear hkeep hG2 hG2r hjm hj hjq
        by_cases hp : xp = -1
        · by_cases hc : xc = -1
          · subst hp hc
            rw [show shP m (-1) = -1 from rfl] at HSH
            go_upto_region 14 with (fail)
            refine wp_name ?_
            intro w4 hw4
            have b4 : Below wr.heap.size wr w4 := by rw [hw4]; exact (by repeat (first | with_reducible assumption | with_reducible exact Below.refl _ _ | with_reducible refine Below.drew ?_ | with_reducible refine below_drewN ?_ _ | with_reducible refine below_alloc ?_ _ | with_reducible refine Below.alloc ?_ (by first | omega | (simp; done) | (simp; omega)) _ | with_reducible refine Below.setCell ?_ (by first | omega | (simp; done) | (simp; omega)) _ | with_reducible refine below_setRow ?_ (by first | omega | (simp; done) | (simp; omega)) _))
            have X4 : w4.heap[wr.heap.size]? = some (.cells #[.int .u64 k0, .int .u64 k1, .int .i64 k2, .int .i64 (-1), .int .i64 (-1), .int .i64 (wrap64 (xl + m)), .int .i64 (wrap64 (xr + m)), .int .i64 xd, .bool xm, .bool xt] 69 (0, 0)) := by rw [hw4]; exact at_of (by apply Exists.intro; refine ⟨?_, ?_⟩; (focus ((repeat (first | (with_reducible assumption) | (with_reducible exact alloc_at _ _) | ((with_reducible apply alloc_at'); (simp; done)) | (with_reducible apply alloc_at_lt) | (with_reducible apply heap_drew_at) | (with_reducible apply heap_drewN_at) | (with_reducible apply heap_setCell_same) | ((with_reducible apply heap_set_ne); (first | omega | (dsimp only; omega) | (simp; done) | (simp; omega))) | (with_reducible apply setRow_at) | ((with_reducible apply setRow_ne); (first | omega | (dsimp only; omega) | (simp; done) | (simp; omega))))))); simp)
            have HQ4 := hid (HQ1.out.below b4)
            have HT4 := hid (HQ.out.2.2.then (Tur.of_below b4))
            have HGV := hid HQ.out.2.1
            have hsz4 := b4.size
            have hlHw := HQ1.out.ltH
            clear hw4 b4 y0 y1 y2 y3 y4 y5 y6 y7 y8 y9 hlw HQ HQ1
            obtain ⟨A4, cap4, rfl⟩ : ∃ A4 cap4, v' = .slice A4 (s.catN o j).m cap4 := by
              obtain ⟨-, ⟨rfl, h0⟩ | ⟨g, cap, cur, rfl, _⟩⟩ := HQ4.out.row
              · exact ⟨none, 0, by rw [h0]⟩
              · exact ⟨_, cap, rfl⟩
            obtain ⟨g5, cap5, w5, happ, H5, hG5, hT5, hGR5⟩ := app_step (s2 := s.catN o (j + 1)) HQ4.out #[.int .u64 k0, .int .u64 k1, .int .i64 k2, .int .i64 (-1), .int .i64 (-1), .int .i64 (wrap64 (xl + m)), .int .i64 (wrap64 (xr + m)), .int .i64 xd, .bool xm, .bool xt] rfl (by rw [← HSH.out]; exact cellsO_one s o j) rfl (by rw [flat_catN, HSH.out]) (by show s.m + j < 1048577; have := HM.out; have := HK1.out; have := HQE.out; omega)
            have HF : Hid (HeapV B (w5.setCell ⟨H, 0, none⟩ (.slice (some ⟨g5, 0, none⟩) ((s.catN o j).m + 1) cap5)) H (.slice (some ⟨g5, 0, none⟩) (s.catN o (j + 1)).m cap5) (s.catN o (j + 1)) least n ∧ GrowV w H (.slice A m capv) (.slice (some ⟨g5, 0, none⟩) (s.catN o (j + 1)).m cap5) ∧ Tur (FootV H (.slice A m capv)) w (w5.setCell ⟨H, 0, none⟩ (.slice (some ⟨g5, 0, none⟩) ((s.catN o j).m + 1) cap5))) :=
              ⟨hG5.toV, HGV.out.trans' hGR5 HT4.out.size, HT4.out.trans hT5 HGV.out⟩
            obtain ⟨ml, hml2⟩ : ∃ ml, ml = (s.catN o j).m := ⟨_, rfl⟩
            have q0 : w4.cell? ⟨H, 0, none⟩ = some (.slice A4 (s.catN o j).m cap4) := (blk_cell HQ4.out.blk 0).trans rfl
            rw [← hml2] at happ HF q0
            have HAPP := hid happ
            have qf := blk_free HQ4.out.blk
            have x0 : w4.cell? ⟨wr.heap.size, 0, none⟩ = some (.int .u64 k0) := (blk_cell X4 0).trans rfl
            have x1 : w4.cell? ⟨wr.heap.size, 1, none⟩ = some (.int .u64 k1) := (blk_cell X4 1).trans rfl
            have x2 : w4.cell? ⟨wr.heap.size, 2, none⟩ = some (.int .i64 k2) := (blk_cell X4 2).trans rfl
            have x3 : w4.cell? ⟨wr.heap.size, 3, none⟩ = some (.int .i64 (-1)) := (blk_cell X4 3).trans rfl
            have x4 : w4.cell? ⟨wr.heap.size, 4, none⟩ = some (.int .i64 (-1)) := (blk_cell X4 4).trans rfl
            have x5 : w4.cell? ⟨wr.heap.size, 5, none⟩ = some (.int .i64 (wrap64 (xl + m))) := (blk_cell X4 5).trans rfl
            have x6 : w4.cell? ⟨wr.heap.size, 6, none⟩ = some (.int .i64 (wrap64 (xr + m))) := (blk_cell X4 6).trans rfl
            have x7 : w4.cell? ⟨wr.heap.size, 7, none⟩ = some (.int .i64 xd) := (blk_cell X4 7).trans rfl
            have x8 : w4.cell? ⟨wr.heap.size, 8, none⟩ = some (.bool xm) := (blk_cell X4 8).trans rfl
            have x9 : w4.cell? ⟨wr.heap.size, 9, none⟩ = some (.bool xt) := (blk_cell X4 9).trans rfl
            have h50 : w5.cell? ⟨H, 0, none⟩ = some (.slice A4 ml cap4) := by rw [hml2]; exact (blk_cell H5 0).trans rfl
            have h5f := blk_free H5
            have hlH4 := HQ4.out.ltH
            have hlp4 := lt_of_at X4
            clear happ H5 hG5 hT5 hGR5 X4 hml2
            go_region_law (refine step_append_eq rfl (.tmp 83) (.tmp 85) 64 rfl (v := .slice A4 ml cap4) (y := .slice (some ⟨w4.heap.size, 0, none⟩) 1 1) (by simp [Act.eval]) (by simp [Act.eval]) HAPP.out ?_)
            all_goals
              clear x0 x1 x2 x3 x4 x5 x6 x7 x8 x9 q0 qf h50 h5f
              go_wp2
              go_roundw
              case rel => exact ⟨j + 1, _, HK1.out, by go_num, HF⟩
              case measure => have := HMS.out; simp [intOf]; omega
          · subst hp
            have hcn : (xc != -1) = true := by simpa using hc
            rw [show shP m (-1) = -1 from rfl, show shP m xc = wrap64 (xc + m) from if_neg hc] at HSH
            clear hc
            go_upto_region 14 with (fail)
            refine wp_name ?_
            intro w4 hw4
            have b4 : Below wr.heap.size wr w4 := by rw [hw4]; exact (by repeat (first | with_reducible assumption | with_reducible exact Below.refl _ _ | with_reducible refine Below.drew ?_ | with_reducible refine below_drewN ?_ _ | with_reducible refine below_alloc ?_ _ | with_reducible refine Below.alloc ?_ (by first | omega | (simp; done) | (simp; omega)) _ | with_reducible refine Below.setCell ?_ (by first | omega | (simp; done) | (simp; omega)) _ | with_reducible refine below_setRow ?_ (by first | omega | (simp; done) | (simp; omega)) _))
            have X4 : w4.heap[wr.heap.size]? = some (.cells #[.int .u64 k0, .int .u64 k1, .int .i64 k2, .int .i64 (-1), .int .i64 (wrap64 (xc + m)), .int .i64 (wrap64 (xl + m)), .int .i64 (wrap64 (xr + m)), .int .i64 xd, .bool xm, .bool xt] 69 (0, 0)) := by rw [hw4]; exact at_of (by apply Exists.intro; refine ⟨?_, ?_⟩; (focus ((repeat (first | (with_reducible assumption) | (with_reducible exact alloc_at _ _) | ((with_reducible apply alloc_at'); (simp; done)) | (with_reducible apply alloc_at_lt) | (with_reducible apply heap_drew_at) | (with_reducible apply heap_drewN_at) | (with_reducible apply heap_setCell_same) | ((with_reducible apply heap_set_ne); (first | omega | (dsimp only; omega) | (simp; done) | (simp; omega))) | (with_reducible apply setRow_at) | ((with_reducible apply setRow_ne); (first | omega | (dsimp only; omega) | (simp; done) | (simp; omega))))))); simp)
            have HQ4 := hid (HQ1.out.below b4)
            have HT4 := hid (HQ.out.2.2.then (Tur.of_below b4))
            have HGV := hid HQ.out.2.1
            have hsz4 := b4.size
            have hlHw := HQ1.out.ltH
            clear hw4 b4 y0 y1 y2 y3 y4 y5 y6 y7 y8 y9 hlw HQ HQ1
            obtain ⟨A4, cap4, rfl⟩ : ∃ A4 cap4, v' = .slice A4 (s.catN o j).m cap4 := by
              obtain ⟨-, ⟨rfl, h0⟩ | ⟨g, cap, cur, rfl, _⟩⟩ := HQ4.out.row
              · exact ⟨none, 0, by rw [h0]⟩
              · exact ⟨_, cap, rfl⟩
            obtain ⟨g5, cap5, w5, happ, H5, hG5, hT5, hGR5⟩ := app_step (s2 := s.catN o (j + 1)) HQ4.out #[.int .u64 k0, .int .u64 k1, .int .i64 k2, .int .i64 (-1), .int .i64 (wrap64 (xc + m)), .int .i64 (wrap64 (xl + m)), .int .i64 (wrap64 (xr + m)), .int .i64 xd, .bool xm, .bool xt] rfl (by rw [← HSH.out]; exact cellsO_one s o j) rfl (by rw [flat_catN, HSH.out]) (by show s.m + j < 1048577; have := HM.out; have := HK1.out; have := HQE.out; omega)
            have HF : Hid (HeapV B (w5.setCell ⟨H, 0, none⟩ (.slice (some ⟨g5, 0, none⟩) ((s.catN o j).m + 1) cap5)) H (.slice (some ⟨g5, 0, none⟩) (s.catN o (j + 1)).m cap5) (s.catN o (j + 1)) least n ∧ GrowV w H (.slice A m capv) (.slice (some ⟨g5, 0, none⟩) (s.catN o (j + 1)).m cap5) ∧ Tur (FootV H (.slice A m capv)) w (w5.setCell ⟨H, 0, none⟩ (.slice (some ⟨g5, 0, none⟩) ((s.catN o j).m + 1) cap5))) :=
              ⟨hG5.toV, HGV.out.trans' hGR5 HT4.out.size, HT4.out.trans hT5 HGV.out⟩
            obtain ⟨ml, hml2⟩ : ∃ ml, ml = (s.catN o j).m := ⟨_, rfl⟩
            have q0 : w4.cell? ⟨H, 0, none⟩ = some (.slice A4 (s.catN o j).m cap4) := (blk_cell HQ4.out.blk 0).trans rfl
            rw [← hml2] at happ HF q0
            have HAPP := hid happ
            have qf := blk_free HQ4.out.blk
            have x0 : w4.cell? ⟨wr.heap.size, 0, none⟩ = some (.int .u64 k0) := (blk_cell X4 0).trans rfl
            have x1 : w4.cell? ⟨wr.heap.size, 1, none⟩ = some (.int .u64 k1) := (blk_cell X4 1).trans rfl
            have x2 : w4.cell? ⟨wr.heap.size, 2, none⟩ = some (.int .i64 k2) := (blk_cell X4 2).trans rfl
            have x3 : w4.cell? ⟨wr.heap.size, 3, none⟩ = some (.int .i64 (-1)) := (blk_cell X4 3).trans rfl
            have x4 : w4.cell? ⟨wr.heap.size, 4, none⟩ = some (.int .i64 (wrap64 (xc + m))) := (blk_cell X4 4).trans rfl
            have x5 : w4.cell? ⟨wr.heap.size, 5, none⟩ = some (.int .i64 (wrap64 (xl + m))) := (blk_cell X4 5).trans rfl
            have x6 : w4.cell? ⟨wr.heap.size, 6, none⟩ = some (.int .i64 (wrap64 (xr + m))) := (blk_cell X4 6).trans rfl
            have x7 : w4.cell? ⟨wr.heap.size, 7, none⟩ = some (.int .i64 xd) := (blk_cell X4 7).trans rfl
            have x8 : w4.cell? ⟨wr.heap.size, 8, none⟩ = some (.bool xm) := (blk_cell X4 8).trans rfl
            have x9 : w4.cell? ⟨wr.heap.size, 9, none⟩ = some (.bool xt) := (blk_cell X4 9).trans rfl
            have h50 : w5.cell? ⟨H, 0, none⟩ = some (.slice A4 ml cap4) := by rw [hml2]; exact (blk_cell H5 0).trans rfl
            have h5f := blk_free H5
            have hlH4 := HQ4.out.ltH
            have hlp4 := lt_of_at X4
            clear happ H5 hG5 hT5 hGR5 X4 hml2
            go_region_law (refine step_append_eq rfl (.tmp 83) (.tmp 85) 64 rfl (v := .slice A4 ml cap4) (y := .slice (some ⟨w4.heap.size, 0, none⟩) 1 1) (by simp [Act.eval]) (by simp [Act.eval]) HAPP.out ?_)
            all_goals
              clear x0 x1 x2 x3 x4 x5 x6 x7 x8 x9 q0 qf h50 h5f
              go_wp2
              go_roundw
              case rel => exact ⟨j + 1, _, HK1.out, by go_num, HF⟩
              case measure => have := HMS.out; simp [intOf]; omega
        · have hpn : (xp != -1) = true := by simpa using hp
          rw [show shP m xp = wrap64 (xp + m) from if_neg hp] at HSH
          clear hp
          by_cases hc : xc = -1
          · subst hc
            rw [show shP m (-1) = -1 from rfl] at HSH
            go_upto_region 14 with (fail)
            refine wp_name ?_
            intro w4 hw4
            have b4 : Below wr.heap.size wr w4 := by rw [hw4]; exact (by repeat (first | with_reducible assumption | with_reducible exact Below.refl _ _ | with_reducible refine Below.drew ?_ | with_reducible refine below_drewN ?_ _ | with_reducible refine below_alloc ?_ _ | with_reducible refine Below.alloc ?_ (by first | omega | (simp; done) | (simp; omega)) _ | with_reducible refine Below.setCell ?_ (by first | omega | (simp; done) | (simp; omega)) _ | with_reducible refine below_setRow ?_ (by first | omega | (simp; done) | (simp; omega)) _))
            have X4 : w4.heap[wr.heap.size]? = some (.cells #[.int .u64 k0, .int .u64 k1, .int .i64 k2, .int .i64 (wrap64 (xp + m)), .int .i64 (-1), .int .i64 (wrap64 (xl + m)), .int .i64 (wrap64 (xr + m)), .int .i64 xd, .bool xm, .bool xt] 69 (0, 0)) := by rw [hw4]; exact at_of (by apply Exists.intro; refine ⟨?_, ?_⟩; (focus ((repeat (first | (with_reducible assumption) | (with_reducible exact alloc_at _ _) | ((with_reducible apply alloc_at'); (simp; done)) | (with_reducible apply alloc_at_lt) | (with_reducible apply heap_drew_at) | (with_reducible apply heap_drewN_at) | (with_reducible apply heap_setCell_same) | ((with_reducible apply heap_set_ne); (first | omega | (dsimp only; omega) | (simp; done) | (simp; omega))) | (with_reducible apply setRow_at) | ((with_reducible apply setRow_ne); (first | omega | (dsimp only; omega) | (simp; done) | (simp; omega))))))); simp)
            have HQ4 := hid (HQ1.out.below b4)
            have HT4 := hid (HQ.out.2.2.then (Tur.of_below b4))
            have HGV := hid HQ.out.2.1
            have hsz4 := b4.size
            have hlHw := HQ1.out.ltH
            clear hw4 b4 y0 y1 y2 y3 y4 y5 y6 y7 y8 y9 hlw HQ HQ1
            obtain ⟨A4, cap4, rfl⟩ : ∃ A4 cap4, v' = .slice A4 (s.catN o j).m cap4 := by
              obtain ⟨-, ⟨rfl, h0⟩ | ⟨g, cap, cur, rfl, _⟩⟩ := HQ4.out.row
              · exact ⟨none, 0, by rw [h0]⟩
              · exact ⟨_, cap, rfl⟩
            obtain ⟨g5, cap5, w5, happ, H5, hG5, hT5, hGR5⟩ := app_step (s2 := s.catN o (j + 1)) HQ4.out #[.int .u64 k0, .int .u64 k1, .int .i64 k2, .int .i64 (wrap64 (xp + m)), .int .i64 (-1), .int .i64 (wrap64 (xl + m)), .int .i64 (wrap64 (xr + m)), .int .i64 xd, .bool xm, .bool xt] rfl (by rw [← HSH.out]; exact cellsO_one s o j) rfl (by rw [flat_catN, HSH.out]) (by show s.m + j < 1048577; have := HM.out; have := HK1.out; have := HQE.out; omega)
            have HF : Hid (HeapV B (w5.setCell ⟨H, 0, none⟩ (.slice (some ⟨g5, 0, none⟩) ((s.catN o j).m + 1) cap5)) H (.slice (some ⟨g5, 0, none⟩) (s.catN o (j + 1)).m cap5) (s.catN o (j + 1)) least n ∧ GrowV w H (.slice A m capv) (.slice (some ⟨g5, 0, none⟩) (s.catN o (j + 1)).m cap5) ∧ Tur (FootV H (.slice A m capv)) w (w5.setCell ⟨H, 0, none⟩ (.slice (some ⟨g5, 0, none⟩) ((s.catN o j).m + 1) cap5))) :=
              ⟨hG5.toV, HGV.out.trans' hGR5 HT4.out.size, HT4.out.trans hT5 HGV.out⟩
            obtain ⟨ml, hml2⟩ : ∃ ml, ml = (s.catN o j).m := ⟨_, rfl⟩
            have q0 : w4.cell? ⟨H, 0, none⟩ = some (.slice A4 (s.catN o j).m cap4) := (blk_cell HQ4.out.blk 0).trans rfl
            rw [← hml2] at happ HF q0
            have HAPP := hid happ
            have qf := blk_free HQ4.out.blk
            have x0 : w4.cell? ⟨wr.heap.size, 0, none⟩ = some (.int .u64 k0) := (blk_cell X4 0).trans rfl
            have x1 : w4.cell? ⟨wr.heap.size, 1, none⟩ = some (.int .u64 k1) := (blk_cell X4 1).trans rfl
            have x2 : w4.cell? ⟨wr.heap.size, 2, none⟩ = some (.int .i64 k2) := (blk_cell X4 2).trans rfl
            have x3 : w4.cell? ⟨wr.heap.size, 3, none⟩ = some (.int .i64 (wrap64 (xp + m))) := (blk_cell X4 3).trans rfl
            have x4 : w4.cell? ⟨wr.heap.size, 4, none⟩ = some (.int .i64 (-1)) := (blk_cell X4 4).trans rfl
            have x5 : w4.cell? ⟨wr.heap.size, 5, none⟩ = some (.int .i64 (wrap64 (xl + m))) := (blk_cell X4 5).trans rfl
            have x6 : w4.cell? ⟨wr.heap.size, 6, none⟩ = some (.int .i64 (wrap64 (xr + m))) := (blk_cell X4 6).trans rfl
            have x7 : w4.cell? ⟨wr.heap.size, 7, none⟩ = some (.int .i64 xd) := (blk_cell X4 7).trans rfl
            have x8 : w4.cell? ⟨wr.heap.size, 8, none⟩ = some (.bool xm) := (blk_cell X4 8).trans rfl
            have x9 : w4.cell? ⟨wr.heap.size, 9, none⟩ = some (.bool xt) := (blk_cell X4 9).trans rfl
            have h50 : w5.cell? ⟨H, 0, none⟩ = some (.slice A4 ml cap4) := by rw [hml2]; exact (blk_cell H5 0).trans rfl
            have h5f := blk_free H5
            have hlH4 := HQ4.out.ltH
            have hlp4 := lt_of_at X4
            clear happ H5 hG5 hT5 hGR5 X4 hml2
            go_region_law (refine step_append_eq rfl (.tmp 83) (.tmp 85) 64 rfl (v := .slice A4 ml cap4) (y := .slice (some ⟨w4.heap.size, 0, none⟩) 1 1) (by simp [Act.eval]) (by simp [Act.eval]) HAPP.out ?_)
            all_goals
              clear x0 x1 x2 x3 x4 x5 x6 x7 x8 x9 q0 qf h50 h5f
              go_wp2
              go_roundw
              case rel => exact ⟨j + 1, _, HK1.out, by go_num, HF⟩
              case measure => have := HMS.out; simp [intOf]; omega
          · have hcn : (xc != -1) = true := by simpa using hc
            rw [show shP m xc = wrap64 (xc + m) from if_neg hc] at HSH
            clear hc
            go_upto_region 14 with (fail)
            refine wp_name ?_
            intro w4 hw4
            have b4 : Below wr.heap.size wr w4 := by rw [hw4]; exact (by repeat (first | with_reducible assumption | with_reducible exact Below.refl _ _ | with_reducible refine Below.drew ?_ | with_reducible refine below_drewN ?_ _ | with_reducible refine below_alloc ?_ _ | with_reducible refine Below.alloc ?_ (by first | omega | (simp; done) | (simp; omega)) _ | with_reducible refine Below.setCell ?_ (by first | omega | (simp; done) | (simp; omega)) _ | with_reducible refine below_setRow ?_ (by first | omega | (simp; done) | (simp; omega)) _))
            have X4 : w4.heap[wr.heap.size]? = some (.cells #[.int .u64 k0, .int .u64 k1, .int .i64 k2, .int .i64 (wrap64 (xp + m)), .int .i64 (wrap64 (xc + m)), .int .i64 (wrap64 (xl + m)), .int .i64 (wrap64 (xr + m)), .int .i64 xd, .bool xm, .bool xt] 69 (0, 0)) := by rw [hw4]; exact at_of (by apply Exists.intro; refine ⟨?_, ?_⟩; (focus ((repeat (first | (with_reducible assumption) | (with_reducible exact alloc_at _ _) | ((with_reducible apply alloc_at'); (simp; done)) | (with_reducible apply alloc_at_lt) | (with_reducible apply heap_drew_at) | (with_reducible apply heap_drewN_at) | (with_reducible apply heap_setCell_same) | ((with_reducible apply heap_set_ne); (first | omega | (dsimp only; omega) | (simp; done) | (simp; omega))) | (with_reducible apply setRow_at) | ((with_reducible apply setRow_ne); (first | omega | (dsimp only; omega) | (simp; done) | (simp; omega))))))); simp)
            have HQ4 := hid (HQ1.out.below b4)
            have HT4 := hid (HQ.out.2.2.then (Tur.of_below b4))
            have HGV := hid HQ.out.2.1
            have hsz4 := b4.size
            have hlHw := HQ1.out.ltH
            clear hw4 b4 y0 y1 y2 y3 y4 y5 y6 y7 y8 y9 hlw HQ HQ1
            obtain ⟨A4, cap4, rfl⟩ : ∃ A4 cap4, v' = .slice A4 (s.catN o j).m cap4 := by
              obtain ⟨-, ⟨rfl, h0⟩ | ⟨g, cap, cur, rfl, _⟩⟩ := HQ4.out.row
              · exact ⟨none, 0, by rw [h0]⟩
              · exact ⟨_, cap, rfl⟩
            obtain ⟨g5, cap5, w5, happ, H5, hG5, hT5, hGR5⟩ := app_step (s2 := s.catN o (j + 1)) HQ4.out #[.int .u64 k0, .int .u64 k1, .int .i64 k2, .int .i64 (wrap64 (xp + m)), .int .i64 (wrap64 (xc + m)), .int .i64 (wrap64 (xl + m)), .int .i64 (wrap64 (xr + m)), .int .i64 xd, .bool xm, .bool xt] rfl (by rw [← HSH.out]; exact cellsO_one s o j) rfl (by rw [flat_catN, HSH.out]) (by show s.m + j < 1048577; have := HM.out; have := HK1.out; have := HQE.out; omega)
            have HF : Hid (HeapV B (w5.setCell ⟨H, 0, none⟩ (.slice (some ⟨g5, 0, none⟩) ((s.catN o j).m + 1) cap5)) H (.slice (some ⟨g5, 0, none⟩) (s.catN o (j + 1)).m cap5) (s.catN o (j + 1)) least n ∧ GrowV w H (.slice A m capv) (.slice (some ⟨g5, 0, none⟩) (s.catN o (j + 1)).m cap5) ∧ Tur (FootV H (.slice A m capv)) w (w5.setCell ⟨H, 0, none⟩ (.slice (some ⟨g5, 0, none⟩) ((s.catN o j).m + 1) cap5))) :=
              ⟨hG5.toV, HGV.out.trans' hGR5 HT4.out.size, HT4.out.trans hT5 HGV.out⟩
            obtain ⟨ml, hml2⟩ : ∃ ml, ml = (s.catN o j).m := ⟨_, rfl⟩
            have q0 : w4.cell? ⟨H, 0, none⟩ = some (.slice A4 (s.catN o j).m cap4) := (blk_cell HQ4.out.blk 0).trans rfl
            rw [← hml2] at happ HF q0
            have HAPP := hid happ
            have qf := blk_free HQ4.out.blk
            have x0 : w4.cell? ⟨wr.heap.size, 0, none⟩ = some (.int .u64 k0) := (blk_cell X4 0).trans rfl
            have x1 : w4.cell? ⟨wr.heap.size, 1, none⟩ = some (.int .u64 k1) := (blk_cell X4 1).trans rfl
            have x2 : w4.cell? ⟨wr.heap.size, 2, none⟩ = some (.int .i64 k2) := (blk_cell X4 2).trans rfl
            have x3 : w4.cell? ⟨wr.heap.size, 3, none⟩ = some (.int .i64 (wrap64 (xp + m))) := (blk_cell X4 3).trans rfl
            have x4 : w4.cell? ⟨wr.heap.size, 4, none⟩ = some (.int .i64 (wrap64 (xc + m))) := (blk_cell X4 4).trans rfl
            have x5 : w4.cell? ⟨wr.heap.size, 5, none⟩ = some (.int .i64 (wrap64 (xl + m))) := (blk_cell X4 5).trans rfl
            have x6 : w4.cell? ⟨wr.heap.size, 6, none⟩ = some (.int .i64 (wrap64 (xr + m))) := (blk_cell X4 6).trans rfl
            have x7 : w4.cell? ⟨wr.heap.size, 7, none⟩ = some (.int .i64 xd) := (blk_cell X4 7).trans rfl
            have x8 : w4.cell? ⟨wr.heap.size, 8, none⟩ = some (.bool xm) := (blk_cell X4 8).trans rfl
            have x9 : w4.cell? ⟨wr.heap.size, 9, none⟩ = some (.bool xt) := (blk_cell X4 9).trans rfl
            have h50 : w5.cell? ⟨H, 0, none⟩ = some (.slice A4 ml cap4) := by rw [hml2]; exact (blk_cell H5 0).trans rfl
            have h5f := blk_free H5
            have hlH4 := HQ4.out.ltH
            have hlp4 := lt_of_at X4
            clear happ H5 hG5 hT5 hGR5 X4 hml2
            go_region_law (refine step_append_eq rfl (.tmp 83) (.tmp 85) 64 rfl (v := .slice A4 ml cap4) (y := .slice (some ⟨w4.heap.size, 0, none⟩) 1 1) (by simp [Act.eval]) (by simp [Act.eval]) HAPP.out ?_)
            all_goals
              clear x0 x1 x2 x3 x4 x5 x6 x7 x8 x9 q0 qf h50 h5f
              go_wp2
              go_roundw
              case rel => exact ⟨j + 1, _, HK1.out, by go_num, HF⟩
              case measure => have := HMS.out; simp [intOf]; omega
      · obtain rfl : j = q := by omega
        have hOw : wr.heap[O]? = w.heap[O]? := HQ.out.2.2.kept O KV.out.ltH (by rw [HME.out]; exact HAP.out O (.inl rfl))
        have HC : Hid (HeapV B wr H v' (s.cat o) least n) := by
          have := HQ.out.1
          rw [HQE.out] at this
          exact this
        have HT := hid HQ.out.2.2
        have HGV := hid HQ.out.2.1
        have HKO : Hid (wr.heap[O]? = some (.cells #[.slice A2 j capu, .int .i64 ol, .int .i64 on] 66 (0, 0))) := by rw [HQE.out]; exact hOw.trans KV.out.blk
        have k1 : wr.cell? ⟨O, 1, none⟩ = some (.int .i64 ol) := (blk_cell HKO.out 1).trans rfl
        clear hj hjq hOw HQ
        have hOB : ol = 0 ∨ ((ol - 1).toNat + 1 = ol.toNat ∧ 0 < ol ∧ ol ≤ 1048576) := by
          rcases HKG.out.min with ⟨e, -, -⟩ | ⟨x, e, hx, -⟩
          · exact .inl e
          · have := HM.out
            exact .inr ⟨by omega, by omega, by omega⟩
        by_cases h0 : ol = 0
        · clear hOB
          have HE : Hid (HeapV B wr H v' (s.catS least o ol) (s.catL least o ol) n ∧ Tur (FootV H (.slice A m capv)) w wr ∧ wr.heap[O]? = some (.cells #[.slice A2 j capu, .int .i64 ol, .int .i64 on] 66 (0, 0))) := by
            refine ⟨?_, HT.out, HKO.out⟩
            rw [show s.catS least o ol = s.cat o from if_pos (.inl h0), show s.catL least o ol = least from if_pos h0]
            exact HC.out
          have HOL := hid h0
          rw [h0] at k1
          clear h0 HSP HC
          go_upto_region 27 with (fail)
          obtain ⟨wE, hwE⟩ : ∃ wE, wE = wr := ⟨_, rfl⟩
          rw [← hwE] at HE ⊢
          clear hwE k1
          obtain ⟨HE1, TE1, KE1⟩ := HE.out
          have q2 : wE.cell? ⟨H, 2, none⟩ = some (.int .i64 n) := (blk_cell HE1.blk 2).trans rfl
          have qf := blk_free HE1.blk
          have k2 : wE.cell? ⟨O, 2, none⟩ = some (.int .i64 on) := (blk_cell KE1 2).trans rfl
          have r2 : wE.cell? ⟨O, 0, none⟩ = some (.slice A2 j capu) := (blk_cell KE1 0).trans rfl
          have r1 : wE.cell? ⟨O, 1, none⟩ = some (.int .i64 ol) := (blk_cell KE1 1).trans rfl
          have kf := blk_free KE1
          have jn : IntKind.i64.wrap (n + on) = n + on := IntWalk.i64_in _ (by have := HM.out; omega)
          have hOFv : ¬ FootV H v' O := by
            intro e
            rcases HGV.out O e with e | e
            · exact HAP.out O (.inl rfl) (by rw [← HME.out]; exact e)
            · have := KV.out.ltH; omega
          have HHO := hid hOFv
          have HF : Hid (HeapV B ((((wE.setCell ⟨H, 2, none⟩ (.int .i64 (n + on))).drew.setCell ⟨O, 0, none⟩ (.slice none 0 0)).setCell ⟨O, 1, none⟩ (.int .i64 0)).setCell ⟨O, 2, none⟩ (.int .i64 0)) H v' (s.catS least o ol) (s.catL least o ol) (n + on) ∧ HeapV B ((((wE.setCell ⟨H, 2, none⟩ (.int .i64 (n + on))).drew.setCell ⟨O, 0, none⟩ (.slice none 0 0)).setCell ⟨O, 1, none⟩ (.int .i64 0)).setCell ⟨O, 2, none⟩ (.int .i64 0)) O (.slice none 0 0) hp0 0 0 ∧ Tur (fun i => FootV H (.slice A m capv) i ∨ i = O) w ((((wE.setCell ⟨H, 2, none⟩ (.int .i64 (n + on))).drew.setCell ⟨O, 0, none⟩ (.slice none 0 0)).setCell ⟨O, 1, none⟩ (.int .i64 0)).setCell ⟨O, 2, none⟩ (.int .i64 0))) := by
            refine ⟨?_, ⟨KV.out.hB, ?_, World.ownsRow_nil _ _ _ _⟩, ?_⟩
            · have a1 := (HE1.setN_ (n + on)).at (w' := (wE.setCell ⟨H, 2, none⟩ (.int .i64 (n + on))).drew) (fun _ _ => rfl)
              exact ((a1.setO_ hOFv).setO_ hOFv).setO_ hOFv
            · have kO : (wE.setCell ⟨H, 2, none⟩ (.int .i64 (n + on))).drew.heap[O]? = some (.cells #[.slice A2 j capu, .int .i64 ol, .int .i64 on] 66 (0, 0)) := heap_drew_at (heap_set_ne hOH KE1)
              exact at_of (by apply Exists.intro; refine ⟨?_, ?_⟩; (focus ((repeat (first | (with_reducible assumption) | (with_reducible exact alloc_at _ _) | ((with_reducible apply alloc_at'); (simp; done)) | (with_reducible apply alloc_at_lt) | (with_reducible apply heap_drew_at) | (with_reducible apply heap_drewN_at) | (with_reducible apply heap_setCell_same) | ((with_reducible apply heap_set_ne); (first | omega | (dsimp only; omega) | (simp; done) | (simp; omega))) | (with_reducible apply setRow_at) | ((with_reducible apply setRow_ne); (first | omega | (dsimp only; omega) | (simp; done) | (simp; omega))))))); simp)
            · have t1 : Tur (fun i => FootV H (.slice A m capv) i ∨ i = O) w wE := TE1.mono (fun _ h => .inl (.inl h))
              exact (((((t1.then (Tur.set _ (.inl (.inl (.inl rfl))))).then (Tur.drew_ _ _)).then (Tur.set _ (.inl (.inr rfl)))).then (Tur.set _ (.inl (.inr rfl)))).then (Tur.set _ (.inl (.inr rfl))))
          clear HE HE1 TE1 KE1 hOFv
          go_region
          all_goals
            go_wp2
            go_ret2
            exact ⟨rfl, v', HF.out.1, HGM.out, HF.out.2.1, HGV.out, HF.out.2.2⟩
        · have HOB := hid (hOB.resolve_left h0)
          clear hOB
          by_cases h1 : least = 0
          · have hz9 := h1
            have hob : (ol - 1).toNat + 1 = ol.toNat ∧ 0 < ol ∧ ol ≤ 1048576 := HOB.out
            have i0 : (ol != 0) = true := by simp; omega
            have j1 : IntKind.i64.wrap (ol - 1) = ol - 1 := IntWalk.i64_in _ (by omega)
            have j2 : IntKind.i64.wrap (ol - 1 + m) = ol - 1 + m := IntWalk.i64_in _ (by omega)
            have j3 : IntKind.i64.wrap (ol - 1 + m + 1) = ol - 1 + m + 1 := IntWalk.i64_in _ (by omega)
            have l1 : wr.cell? ⟨H, 1, none⟩ = some (.int .i64 least) := (blk_cell HC.out.blk 1).trans rfl
            have l0f := blk_free HC.out.blk
            rw [h1] at l1
            have HE : Hid (HeapV B (wr.setCell ⟨H, 1, none⟩ (.int .i64 (ol - 1 + m + 1))) H v' (s.catS least o ol) (s.catL least o ol) n ∧ Tur (FootV H (.slice A m capv)) w (wr.setCell ⟨H, 1, none⟩ (.int .i64 (ol - 1 + m + 1))) ∧ (wr.setCell ⟨H, 1, none⟩ (.int .i64 (ol - 1 + m + 1))).heap[O]? = some (.cells #[.slice A2 j capu, .int .i64 ol, .int .i64 on] 66 (0, 0))) := by
              refine ⟨?_, HT.out.then (Tur.set _ (.inl (.inl rfl))), heap_set_ne hOH HKO.out⟩
              have el : s.catL least o ol = ol - 1 + m + 1 := by
                unfold Hp.catL
                rw [if_neg h0, if_pos h1, ← HME.out]
                omega
              rw [show s.catS least o ol = s.cat o from if_pos (.inr h1), el]
              exact HC.out.setL_ _
            clear h0 h1 HSP HC hob
            go_upto_region 27 with (fail)
            obtain ⟨wE, hwE⟩ : ∃ wE, wE = wr.setCell ⟨H, 1, none⟩ (.int .i64 (ol - 1 + m + 1)) := ⟨_, rfl⟩
            rw [← hwE] at HE ⊢
            clear hwE k1 l1 l0f
            obtain ⟨HE1, TE1, KE1⟩ := HE.out
            have q2 : wE.cell? ⟨H, 2, none⟩ = some (.int .i64 n) := (blk_cell HE1.blk 2).trans rfl
            have qf := blk_free HE1.blk
            have k2 : wE.cell? ⟨O, 2, none⟩ = some (.int .i64 on) := (blk_cell KE1 2).trans rfl
            have r2 : wE.cell? ⟨O, 0, none⟩ = some (.slice A2 j capu) := (blk_cell KE1 0).trans rfl
            have r1 : wE.cell? ⟨O, 1, none⟩ = some (.int .i64 ol) := (blk_cell KE1 1).trans rfl
            have kf := blk_free KE1
            have jn : IntKind.i64.wrap (n + on) = n + on := IntWalk.i64_in _ (by have := HM.out; omega)
            have hOFv : ¬ FootV H v' O := by
              intro e
              rcases HGV.out O e with e | e
              · exact HAP.out O (.inl rfl) (by rw [← HME.out]; exact e)
              · have := KV.out.ltH; omega
            have HHO := hid hOFv
            have HF : Hid (HeapV B ((((wE.setCell ⟨H, 2, none⟩ (.int .i64 (n + on))).drew.setCell ⟨O, 0, none⟩ (.slice none 0 0)).setCell ⟨O, 1, none⟩ (.int .i64 0)).setCell ⟨O, 2, none⟩ (.int .i64 0)) H v' (s.catS least o ol) (s.catL least o ol) (n + on) ∧ HeapV B ((((wE.setCell ⟨H, 2, none⟩ (.int .i64 (n + on))).drew.setCell ⟨O, 0, none⟩ (.slice none 0 0)).setCell ⟨O, 1, none⟩ (.int .i64 0)).setCell ⟨O, 2, none⟩ (.int .i64 0)) O (.slice none 0 0) hp0 0 0 ∧ Tur (fun i => FootV H (.slice A m capv) i ∨ i = O) w ((((wE.setCell ⟨H, 2, none⟩ (.int .i64 (n + on))).drew.setCell ⟨O, 0, none⟩ (.slice none 0 0)).setCell ⟨O, 1, none⟩ (.int .i64 0)).setCell ⟨O, 2, none⟩ (.int .i64 0))) := by
              refine ⟨?_, ⟨KV.out.hB, ?_, World.ownsRow_nil _ _ _ _⟩, ?_⟩
              · have a1 := (HE1.setN_ (n + on)).at (w' := (wE.setCell ⟨H, 2, none⟩ (.int .i64 (n + on))).drew) (fun _ _ => rfl)
                exact ((a1.setO_ hOFv).setO_ hOFv).setO_ hOFv
              · have kO : (wE.setCell ⟨H, 2, none⟩ (.int .i64 (n + on))).drew.heap[O]? = some (.cells #[.slice A2 j capu, .int .i64 ol, .int .i64 on] 66 (0, 0)) := heap_drew_at (heap_set_ne hOH KE1)
                exact at_of (by apply Exists.intro; refine ⟨?_, ?_⟩; (focus ((repeat (first | (with_reducible assumption) | (with_reducible exact alloc_at _ _) | ((with_reducible apply alloc_at'); (simp; done)) | (with_reducible apply alloc_at_lt) | (with_reducible apply heap_drew_at) | (with_reducible apply heap_drewN_at) | (with_reducible apply heap_setCell_same) | ((with_reducible apply heap_set_ne); (first | omega | (dsimp only; omega) | (simp; done) | (simp; omega))) | (with_reducible apply setRow_at) | ((with_reducible apply setRow_ne); (first | omega | (dsimp only; omega) | (simp; done) | (simp; omega))))))); simp)
              · have t1 : Tur (fun i => FootV H (.slice A m capv) i ∨ i = O) w wE := TE1.mono (fun _ h => .inl (.inl h))
                exact (((((t1.then (Tur.set _ (.inl (.inl (.inl rfl))))).then (Tur.drew_ _ _)).then (Tur.set _ (.inl (.inr rfl)))).then (Tur.set _ (.inl (.inr rfl)))).then (Tur.set _ (.inl (.inr rfl))))
            clear HE HE1 TE1 KE1 hOFv
            go_region
            all_goals
              go_wp2
              go_ret2
              exact ⟨rfl, v', HF.out.1, HGM.out, HF.out.2.1, HGV.out, HF.out.2.2⟩
          · have hz9 := h1
            obtain ⟨x, y, a, b, ex, ey, hx, hy, ha, hb, ham, hbm, hlf, hrt, kx, ky⟩ := (HSP.out.resolve_left h0).resolve_left h1
            have mc : (s.cat o).m = s.m + o.m := rfl
            obtain ⟨g5, cap5, rfl, hG⟩ := HC.out.open_ (by rw [mc]; omega)
            rw [mc] at HGV
            have i0 : (ol != 0) = true := by simp; omega
            have i1 : (least == 0) = false := by simp; omega
            subst ex ey
            have hmx := HM.out
            have j1 : IntKind.i64.wrap ((x : Int) + 1 - 1) = (x : Int) := by rw [show (x : Int) + 1 - 1 = (x : Int) by omega]; exact IntWalk.i64_in _ (by omega)
            have j2 : IntKind.i64.wrap ((x : Int) + m) = ((x + m : Nat) : Int) := by rw [show (x : Int) + m = ((x + m : Nat) : Int) by omega]; exact IntWalk.i64_in _ (by omega)
            have j3 : IntKind.i64.wrap ((y : Int) + 1 - 1) = (y : Int) := by rw [show (y : Int) + 1 - 1 = (y : Int) by omega]; exact IntWalk.i64_in _ (by omega)
            have j4 : IntKind.i64.wrap (((x + m : Nat) : Int) + 1) = ((x + m : Nat) : Int) + 1 := IntWalk.i64_in _ (by omega)
            obtain ⟨X, hX⟩ : ∃ X, X = x + m := ⟨_, rfl⟩
            rw [← hX] at j2 j4
            have hXI : (x : Int) + (m : Int) = (X : Int) := by omega
            rw [← HME.out, ← hX] at hlf kx
            have hXm : X < (s.cat o).m := by rw [mc, hX, HME.out]; omega
            have hym : y < (s.cat o).m := by rw [mc]; omega
            have ham2 : a < (s.cat o).m := by rw [mc]; omega
            have hbm2 : b < (s.cat o).m := by rw [mc]; omega
            have mcj : (s.cat o).m = m + j := by rw [mc, HME.out, HQE.out]
            have iX : (X : Int) < (m : Int) + j := by rw [mcj] at hXm; omega
            have es : s.catS ((y : Int) + 1) o ((x : Int) + 1) = (s.cat o).meldS X y a b := by
              unfold Hp.catS
              rw [if_neg (by omega), show ((x : Int) + 1 - 1).toNat = x by omega, show ((y : Int) + 1 - 1).toNat = y by omega, ← HME.out, ← hX, hlf, hrt, Int.toNat_natCast, Int.toNat_natCast]
            have el : s.catL ((y : Int) + 1) o ((x : Int) + 1) = if (s.cat o).ltB X y then (X : Int) + 1 else (y : Int) + 1 := by
              unfold Hp.catL Hp.ltB
              rw [if_neg (by omega), if_neg (by omega), show ((x : Int) + 1 - 1).toNat = x by omega, show ((y : Int) + 1 - 1).toNat = y by omega, ← HME.out, ← hX]
              by_cases hl : (s.cat o).lt X y
              · rw [if_pos hl, if_pos (by simpa using hl)]; omega
              · rw [if_neg hl, if_neg (by simpa using hl)]
            have HES := hid es
            have HEL := hid el
            obtain ⟨c0, l1, -, cf⟩ := hG.head
            rw [mcj] at c0
            obtain ⟨-, -, -, -, -, x5, -, -, -, -⟩ := hG.cells hXm
            obtain ⟨-, -, -, -, -, -, y6, -, -, -⟩ := hG.cells hym
            obtain ⟨-, -, -, -, -, -, a6, -, -, -⟩ := hG.cells ham2
            obtain ⟨-, -, -, -, -, b5, -, -, -, -⟩ := hG.cells hbm2
            rw [hlf] at x5
            rw [hrt] at y6
            have gf := hG.free
            have iy : (y : Int) < (m : Int) + j := by rw [mcj] at hym; omega
            have ia : (a : Int) < (m : Int) + j := by rw [mcj] at ham2; omega
            have ib : (b : Int) < (m : Int) + j := by rw [mcj] at hbm2; omega
            have ay : a ≠ y := by omega
            have bX : b ≠ X := by have := HME.out; omega
            have n1 : ∀ W v, (World.setCell W ⟨g5, y * 10 + 6, none⟩ v).cell? ⟨g5, X * 10 + 5, none⟩ = W.cell? ⟨g5, X * 10 + 5, none⟩ := fun W v => setc_ne (by omega)
            have n2 : ∀ W v, (World.setCell W ⟨g5, y * 10 + 6, none⟩ v).cell? ⟨g5, a * 10 + 6, none⟩ = W.cell? ⟨g5, a * 10 + 6, none⟩ := fun W v => setc_ne (by omega)
            have n3 : ∀ W v, (World.setCell W ⟨g5, X * 10 + 5, none⟩ v).cell? ⟨g5, a * 10 + 6, none⟩ = W.cell? ⟨g5, a * 10 + 6, none⟩ := fun W v => setc_ne (by omega)
            have n4 : ∀ W v, (World.setCell W ⟨g5, y * 10 + 6, none⟩ v).cell? ⟨g5, b * 10 + 5, none⟩ = W.cell? ⟨g5, b * 10 + 5, none⟩ := fun W v => setc_ne (by omega)
            have n5 : ∀ W v, (World.setCell W ⟨g5, X * 10 + 5, none⟩ v).cell? ⟨g5, b * 10 + 5, none⟩ = W.cell? ⟨g5, b * 10 + 5, none⟩ := fun W v => setc_ne (by omega)
            have n6 : ∀ W v, (World.setCell W ⟨g5, a * 10 + 6, none⟩ v).cell? ⟨g5, b * 10 + 5, none⟩ = W.cell? ⟨g5, b * 10 + 5, none⟩ := fun W v => setc_ne (by omega)
            have hgO : g5 ≠ O := by
              intro e
              rcases HGV.out g5 (.inr rfl) with q | q
              · exact HAP.out O (.inl rfl) (by rw [← HME.out, ← e]; exact q)
              · have := KV.out.ltH; omega
            have HFX : Hid (HeapG B ((((wr.setCell ⟨g5, y * 10 + 6, none⟩ (.int .i64 X)).setCell ⟨g5, X * 10 + 5, none⟩ (.int .i64 y)).setCell ⟨g5, a * 10 + 6, none⟩ (.int .i64 b)).setCell ⟨g5, b * 10 + 5, none⟩ (.int .i64 a)).drew H g5 cap5 ((s.cat o).meldS X y a b) ((y : Int) + 1) n ∧ Tur (FootG H g5) wr ((((wr.setCell ⟨g5, y * 10 + 6, none⟩ (.int .i64 X)).setCell ⟨g5, X * 10 + 5, none⟩ (.int .i64 y)).setCell ⟨g5, a * 10 + 6, none⟩ (.int .i64 b)).setCell ⟨g5, b * 10 + 5, none⟩ (.int .i64 a)).drew ∧
                ((((wr.setCell ⟨g5, y * 10 + 6, none⟩ (.int .i64 X)).setCell ⟨g5, X * 10 + 5, none⟩ (.int .i64 y)).setCell ⟨g5, a * 10 + 6, none⟩ (.int .i64 b)).setCell ⟨g5, b * 10 + 5, none⟩ (.int .i64 a)).drew.heap[O]? = some (.cells #[.slice A2 j capu, .int .i64 ((x : Int) + 1), .int .i64 on] 66 (0, 0))) := by
              refine ⟨((((hG.set hym (by omega) (upd_rt _ y (X : Int))).set hXm (by omega) (upd_lf _ X (y : Int))).set ham2 (by omega) (upd_rt _ a (b : Int))).set hbm2 (by omega) (upd_lf _ b (a : Int))).at rfl rfl, (((((tur_g (w := wr)).then tur_g).then tur_g).then tur_g).then (Tur.drew_ _ _)), ?_⟩
              exact heap_drew_at (heap_set_ne (Ne.symm hgO) (heap_set_ne (Ne.symm hgO) (heap_set_ne (Ne.symm hgO) (heap_set_ne (Ne.symm hgO) HKO.out))))
            have HLESS : Hid (∀ W, HeapG B W H g5 cap5 ((s.cat o).meldS X y a b) ((y : Int) + 1) n → Calls Try.prog 27 #[.pointer (some ⟨H, 0, none⟩), .int .i64 X, .int .i64 y] W fun e w' => e = .returned (.bool ((s.cat o).ltB X y)) ∧ Below W.heap.size W w') := fun W hW => less_g (s := (s.cat o).meldS X y a b) X y hW hXm hym kx ky
            have HTG : Hid (∀ W, Tur (FootG H g5) wr W → Tur (FootV H (.slice A m capv)) w W) := fun W hW => HT.out.trans hW (by
              rintro i (e | e)
              · exact .inl (.inl e)
              · exact HGV.out i (.inr (by rw [e]; rfl)))
            have HGV2 : Hid (GrowV w H (.slice A m capv) (.slice (some ⟨g5, 0, none⟩) ((s.cat o).meldS X y a b).m cap5)) := HGV.out
            clear hG HC hlf hrt kx ky hx hy ha hb ham hbm h0 h1 hz9 es el hX hXm hym ham2 hbm2 mcj HSP mc hmx
            go_upto_region 22 with (fail)
            go_region_held3 (fun w' => w'.cell? ⟨g5, X * 10 + 5, none⟩ = some (.int .i64 a) ∧ w'.cell? ⟨g5, y * 10 + 6, none⟩ = some (.int .i64 b)) (go_keep) (fail)
            all_goals
              go_upto_region 25 with (fail)
              refine wp_name ?_
              intro w5 hw5
              rw [← hw5] at HFX
              obtain ⟨d0, d1, -, df⟩ := HFX.out.1.head
              clear hw5 c0 l1 cf x5 y6 a6 b5 gf n1 n2 n3 n4 n5 n6 k1
              go_wp2_with fail
              refine (HLESS.out w5 HFX.out.1).mono ?_
              rintro e w6 ⟨rfl, hb6⟩
              have H6 := HFX.out.1.below hb6
              have HT6 := hid (HTG.out _ (HFX.out.2.1.then (Tur.of_below hb6)))
              have HKO6 := hid ((hb6.block O (lt_of_at HFX.out.2.2)).trans HFX.out.2.2)
              obtain ⟨d0, d1, -, df⟩ := H6.head
              have HH6 := hid H6
              clear HFX hb6 HLESS HTG H6
              cases hq : (s.cat o).ltB X y with
              | true =>
                have HE : Hid (HeapV B (w6.setCell ⟨H, 1, none⟩ (.int .i64 ((X : Int) + 1))) H (.slice (some ⟨g5, 0, none⟩) ((s.cat o).meldS X y a b).m cap5) (s.catS ((y : Int) + 1) o ((x : Int) + 1)) (s.catL ((y : Int) + 1) o ((x : Int) + 1)) n ∧ Tur (FootV H (.slice A m capv)) w (w6.setCell ⟨H, 1, none⟩ (.int .i64 ((X : Int) + 1))) ∧ (w6.setCell ⟨H, 1, none⟩ (.int .i64 ((X : Int) + 1))).heap[O]? = some (.cells #[.slice A2 j capu, .int .i64 ((x : Int) + 1), .int .i64 on] 66 (0, 0))) := by
                  refine ⟨?_, HT6.out.then (Tur.set _ (.inl (.inl rfl))), heap_set_ne hOH HKO6.out⟩
                  rw [HES.out, HEL.out, hq]
                  exact (HH6.out.setL ((X : Int) + 1)).toV
                clear hq HH6 HT6 HKO6
                go_upto_region 27 with (fail)
                obtain ⟨wE, hwE⟩ : ∃ wE, wE = w6.setCell ⟨H, 1, none⟩ (.int .i64 ((X : Int) + 1)) := ⟨_, rfl⟩
                rw [← hwE] at HE ⊢
                clear hwE d0 d1 df
                obtain ⟨HE1, TE1, KE1⟩ := HE.out
                have q2 : wE.cell? ⟨H, 2, none⟩ = some (.int .i64 n) := (blk_cell HE1.blk 2).trans rfl
                have qf := blk_free HE1.blk
                have k2 : wE.cell? ⟨O, 2, none⟩ = some (.int .i64 on) := (blk_cell KE1 2).trans rfl
                have r2 : wE.cell? ⟨O, 0, none⟩ = some (.slice A2 j capu) := (blk_cell KE1 0).trans rfl
                have r1 : wE.cell? ⟨O, 1, none⟩ = some (.int .i64 ((x : Int) + 1)) := (blk_cell KE1 1).trans rfl
                have kf := blk_free KE1
                have jn : IntKind.i64.wrap (n + on) = n + on := IntWalk.i64_in _ (by have := HM.out; omega)
                have hOFv : ¬ FootV H (.slice (some ⟨g5, 0, none⟩) ((s.cat o).meldS X y a b).m cap5) O := by
                  intro e
                  rcases HGV2.out O e with e | e
                  · exact HAP.out O (.inl rfl) (by rw [← HME.out]; exact e)
                  · have := KV.out.ltH; omega
                have HHO := hid hOFv
                have HF : Hid (HeapV B ((((wE.setCell ⟨H, 2, none⟩ (.int .i64 (n + on))).drew.setCell ⟨O, 0, none⟩ (.slice none 0 0)).setCell ⟨O, 1, none⟩ (.int .i64 0)).setCell ⟨O, 2, none⟩ (.int .i64 0)) H (.slice (some ⟨g5, 0, none⟩) ((s.cat o).meldS X y a b).m cap5) (s.catS ((y : Int) + 1) o ((x : Int) + 1)) (s.catL ((y : Int) + 1) o ((x : Int) + 1)) (n + on) ∧ HeapV B ((((wE.setCell ⟨H, 2, none⟩ (.int .i64 (n + on))).drew.setCell ⟨O, 0, none⟩ (.slice none 0 0)).setCell ⟨O, 1, none⟩ (.int .i64 0)).setCell ⟨O, 2, none⟩ (.int .i64 0)) O (.slice none 0 0) hp0 0 0 ∧ Tur (fun i => FootV H (.slice A m capv) i ∨ i = O) w ((((wE.setCell ⟨H, 2, none⟩ (.int .i64 (n + on))).drew.setCell ⟨O, 0, none⟩ (.slice none 0 0)).setCell ⟨O, 1, none⟩ (.int .i64 0)).setCell ⟨O, 2, none⟩ (.int .i64 0))) := by
                  refine ⟨?_, ⟨KV.out.hB, ?_, World.ownsRow_nil _ _ _ _⟩, ?_⟩
                  · have a1 := (HE1.setN_ (n + on)).at (w' := (wE.setCell ⟨H, 2, none⟩ (.int .i64 (n + on))).drew) (fun _ _ => rfl)
                    exact ((a1.setO_ hOFv).setO_ hOFv).setO_ hOFv
                  · have kO : (wE.setCell ⟨H, 2, none⟩ (.int .i64 (n + on))).drew.heap[O]? = some (.cells #[.slice A2 j capu, .int .i64 ((x : Int) + 1), .int .i64 on] 66 (0, 0)) := heap_drew_at (heap_set_ne hOH KE1)
                    exact at_of (by apply Exists.intro; refine ⟨?_, ?_⟩; (focus ((repeat (first | (with_reducible assumption) | (with_reducible exact alloc_at _ _) | ((with_reducible apply alloc_at'); (simp; done)) | (with_reducible apply alloc_at_lt) | (with_reducible apply heap_drew_at) | (with_reducible apply heap_drewN_at) | (with_reducible apply heap_setCell_same) | ((with_reducible apply heap_set_ne); (first | omega | (dsimp only; omega) | (simp; done) | (simp; omega))) | (with_reducible apply setRow_at) | ((with_reducible apply setRow_ne); (first | omega | (dsimp only; omega) | (simp; done) | (simp; omega))))))); simp)
                  · have t1 : Tur (fun i => FootV H (.slice A m capv) i ∨ i = O) w wE := TE1.mono (fun _ h => .inl (.inl h))
                    exact (((((t1.then (Tur.set _ (.inl (.inl (.inl rfl))))).then (Tur.drew_ _ _)).then (Tur.set _ (.inl (.inr rfl)))).then (Tur.set _ (.inl (.inr rfl)))).then (Tur.set _ (.inl (.inr rfl))))
                clear HE HE1 TE1 KE1 hOFv
                go_region
                all_goals
                  go_wp2
                  go_ret2
                  exact ⟨rfl, _, HF.out.1, HGM.out, HF.out.2.1, HGV2.out, HF.out.2.2⟩
              | false =>
                have HE : Hid (HeapV B w6 H (.slice (some ⟨g5, 0, none⟩) ((s.cat o).meldS X y a b).m cap5) (s.catS ((y : Int) + 1) o ((x : Int) + 1)) (s.catL ((y : Int) + 1) o ((x : Int) + 1)) n ∧ Tur (FootV H (.slice A m capv)) w w6 ∧ w6.heap[O]? = some (.cells #[.slice A2 j capu, .int .i64 ((x : Int) + 1), .int .i64 on] 66 (0, 0))) := by
                  refine ⟨?_, HT6.out, HKO6.out⟩
                  rw [HES.out, HEL.out, hq]
                  exact HH6.out.toV
                clear hq HH6 HT6 HKO6
                go_upto_region 27 with (fail)
                obtain ⟨wE, hwE⟩ : ∃ wE, wE = w6 := ⟨_, rfl⟩
                rw [← hwE] at HE ⊢
                clear hwE d0 d1 df
                obtain ⟨HE1, TE1, KE1⟩ := HE.out
                have q2 : wE.cell? ⟨H, 2, none⟩ = some (.int .i64 n) := (blk_cell HE1.blk 2).trans rfl
                have qf := blk_free HE1.blk
                have k2 : wE.cell? ⟨O, 2, none⟩ = some (.int .i64 on) := (blk_cell KE1 2).trans rfl
                have r2 : wE.cell? ⟨O, 0, none⟩ = some (.slice A2 j capu) := (blk_cell KE1 0).trans rfl
                have r1 : wE.cell? ⟨O, 1, none⟩ = some (.int .i64 ((x : Int) + 1)) := (blk_cell KE1 1).trans rfl
                have kf := blk_free KE1
                have jn : IntKind.i64.wrap (n + on) = n + on := IntWalk.i64_in _ (by have := HM.out; omega)
                have hOFv : ¬ FootV H (.slice (some ⟨g5, 0, none⟩) ((s.cat o).meldS X y a b).m cap5) O := by
                  intro e
                  rcases HGV2.out O e with e | e
                  · exact HAP.out O (.inl rfl) (by rw [← HME.out]; exact e)
                  · have := KV.out.ltH; omega
                have HHO := hid hOFv
                have HF : Hid (HeapV B ((((wE.setCell ⟨H, 2, none⟩ (.int .i64 (n + on))).drew.setCell ⟨O, 0, none⟩ (.slice none 0 0)).setCell ⟨O, 1, none⟩ (.int .i64 0)).setCell ⟨O, 2, none⟩ (.int .i64 0)) H (.slice (some ⟨g5, 0, none⟩) ((s.cat o).meldS X y a b).m cap5) (s.catS ((y : Int) + 1) o ((x : Int) + 1)) (s.catL ((y : Int) + 1) o ((x : Int) + 1)) (n + on) ∧ HeapV B ((((wE.setCell ⟨H, 2, none⟩ (.int .i64 (n + on))).drew.setCell ⟨O, 0, none⟩ (.slice none 0 0)).setCell ⟨O, 1, none⟩ (.int .i64 0)).setCell ⟨O, 2, none⟩ (.int .i64 0)) O (.slice none 0 0) hp0 0 0 ∧ Tur (fun i => FootV H (.slice A m capv) i ∨ i = O) w ((((wE.setCell ⟨H, 2, none⟩ (.int .i64 (n + on))).drew.setCell ⟨O, 0, none⟩ (.slice none 0 0)).setCell ⟨O, 1, none⟩ (.int .i64 0)).setCell ⟨O, 2, none⟩ (.int .i64 0))) := by
                  refine ⟨?_, ⟨KV.out.hB, ?_, World.ownsRow_nil _ _ _ _⟩, ?_⟩
                  · have a1 := (HE1.setN_ (n + on)).at (w' := (wE.setCell ⟨H, 2, none⟩ (.int .i64 (n + on))).drew) (fun _ _ => rfl)
                    exact ((a1.setO_ hOFv).setO_ hOFv).setO_ hOFv
                  · have kO : (wE.setCell ⟨H, 2, none⟩ (.int .i64 (n + on))).drew.heap[O]? = some (.cells #[.slice A2 j capu, .int .i64 ((x : Int) + 1), .int .i64 on] 66 (0, 0)) := heap_drew_at (heap_set_ne hOH KE1)
                    exact at_of (by apply Exists.intro; refine ⟨?_, ?_⟩; (focus ((repeat (first | (with_reducible assumption) | (with_reducible exact alloc_at _ _) | ((with_reducible apply alloc_at'); (simp; done)) | (with_reducible apply alloc_at_lt) | (with_reducible apply heap_drew_at) | (with_reducible apply heap_drewN_at) | (with_reducible apply heap_setCell_same) | ((with_reducible apply heap_set_ne); (first | omega | (dsimp only; omega) | (simp; done) | (simp; omega))) | (with_reducible apply setRow_at) | ((with_reducible apply setRow_ne); (first | omega | (dsimp only; omega) | (simp; done) | (simp; omega))))))); simp)
                  · have t1 : Tur (fun i => FootV H (.slice A m capv) i ∨ i = O) w wE := TE1.mono (fun _ h => .inl (.inl h))
                    exact (((((t1.then (Tur.set _ (.inl (.inl (.inl rfl))))).then (Tur.drew_ _ _)).then (Tur.set _ (.inl (.inr rfl)))).then (Tur.set _ (.inl (.inr rfl)))).then (Tur.set _ (.inl (.inr rfl))))
                clear HE HE1 TE1 KE1 hOFv
                go_region
                all_goals
                  go_wp2
                  go_ret2
                  exact ⟨rfl, _, HF.out.1, HGM.out, HF.out.2.1, HGV2.out, HF.out.2.2⟩
end Go.Proofs.Ythdbiablpkeagaa
