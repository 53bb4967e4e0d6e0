/- Chapter 8's reference heap: entries are appended; Insert. -/
import Derived.Test.YthdbiablpkeagaaRfE
import Derived.Test.YthdbiablpkeagaaFbU
import Derived.Deep.RegionLaw
import Derived.Deep.Upon
namespace Go.Proofs.Ythdbiablpkeagaa
open Go.RowKit
variable {B H g cap : Nat} {w w' : World} {s s' : Hp} {v : Value}
theorem flatR_two {s t : Hp} {n : Nat} {news : List Value} (hm : t.m = s.m + n) (hl : news.length = n * 4) (hlo : ∀ i c, i < s.m → c < 4 → cellR t i c = cellR s i c) (hhi : ∀ i c, i < n → c < 4 → news[i * 4 + c]? = some (cellR t (s.m + i) c)) : flatR t = flatR s ++ news := by
  refine List.ext_getElem? fun j => ?_
  by_cases hj : j < s.m * 4
  · have e := flatR_at s (i := j / 4) (c := j % 4) (by omega) (by omega)
    have e' := flatR_at t (i := j / 4) (c := j % 4) (by rw [hm]; omega) (by omega)
    rw [show j / 4 * 4 + j % 4 = j by omega] at e e'
    rw [List.getElem?_append_left (by rw [flatR_length]; exact hj), e, e', hlo _ _ (by omega) (by omega)]
  · by_cases hj2 : j < (s.m + n) * 4
    · have e' := flatR_at t (i := j / 4) (c := j % 4) (by rw [hm]; omega) (by omega)
      rw [show j / 4 * 4 + j % 4 = j by omega] at e'
      have e := hhi (j / 4 - s.m) (j % 4) (by omega) (by omega)
      rw [show s.m + (j / 4 - s.m) = j / 4 by omega, show (j / 4 - s.m) * 4 + j % 4 = j - s.m * 4 by omega] at e
      rw [List.getElem?_append_right (by rw [flatR_length]; omega), flatR_length, e', e]
    · rw [List.getElem?_eq_none (by rw [flatR_length, hm]; omega), List.getElem?_eq_none (by rw [List.length_append, flatR_length, hl]; omega)]
def entR (k : K3) : List Value := [.int .u64 k.1, .int .u64 k.2.1, .int .i64 k.2.2, .bool true]
theorem entR_one (k : K3) : ∀ u ∈ entR k, u.oneCell' = true := by
  intro u h
  simp only [entR, List.mem_cons, List.not_mem_nil, or_false] at h
  rcases h with rfl | rfl | rfl | rfl <;> rfl
theorem flatR_ins (s : Hp) (k : K3) : flatR (s.insS k) = flatR s ++ entR k := by
  refine flatR_two (n := 1) rfl rfl (fun i c hi hc => ?_) (fun i c hi hc => ?_)
  · have hne : i ≠ s.m := by omega
    unfold cellR Hp.insS
    simp only [up_ne _ _ hne]
  · obtain rfl : i = 0 := by omega
    unfold cellR Hp.insS
    simp only [Nat.add_zero, up_same]
    match c, hc with
    | 0, _ | 1, _ | 2, _ | 3, _ => simp [entR]
theorem flatR_cat (s o : Hp) : flatR (s.cat o) = flatR s ++ flatR o := by
  refine flatR_two (n := o.m) rfl (flatR_length o) (fun i c hi hc => ?_) (fun i c hi hc => ?_)
  · have q := cat_lo s o hi
    unfold cellR
    simp only [q.1, q.2.2.2.2.2.2.2]
  · rw [flatR_at o hi hc]
    have q := cat_hi s o i
    rw [Nat.add_comm s.m i]
    unfold cellR
    simp only [q.1, q.2.2.2.2.2.2.2]
theorem infoRE : (Try.prog.info? 89).map (fun i => (i.size, i.bytes)) = some (4, 32) ∧ ((Try.prog.info? 89).bind (·.zero)).map (fun z => z.cells.size) = some 4 := by
  constructor <;> kernel_rfl
theorem infoRE2 : ∃ i z, Try.prog.info? 89 = some i ∧ i.zero = some z ∧ i.size = 4 ∧ i.bytes = 32 ∧ z.cells.size = 4 := by
  obtain ⟨h1, h2⟩ := infoRE
  cases e : Try.prog.info? 89 with
  | none => rw [e] at h1; cases h1
  | some i =>
    rw [e] at h1 h2
    simp only [Option.map_some, Option.bind_some] at h1 h2
    injection h1 with h1
    injection h1 with h3 h4
    cases ez : i.zero with
    | none => rw [ez] at h2; cases h2
    | some z =>
      rw [ez] at h2
      simp only [Option.map_some] at h2
      injection h2 with h2
      exact ⟨i, z, rfl, ez, h3, h4, h2⟩
theorem RefV.shape (h : RefV B w H v s) : ∃ A capv, v = .slice A s.m capv := by
  obtain ⟨-, ⟨rfl, h0⟩ | ⟨g, cap, cur, rfl, _⟩⟩ := h.row
  · exact ⟨none, 0, by rw [h0]⟩
  · exact ⟨_, cap, rfl⟩
theorem RefV.ownNe (h : RefV B w H v s) : some H ≠ v.ownBlock := by
  intro e
  obtain ⟨-, ⟨h3, h4⟩ | ⟨g', cap', cur, h3, -, hh, -⟩⟩ := h.row
  · rw [h3] at e; cases e
  · rw [h3] at e
    injection e with e
    simp only at e
    rw [← e, h.blk] at hh
    injection hh with hh
    injection hh with _ h5
    exact absurd h5 (by decide)
/-- Entries are appended, and the slice stored. -/
theorem app_stepR {W : World} {A : Option Addr} {capv m c : Nat} {s2 : Hp} (hW : RefV B W H (.slice A s.m capv) s) (ad : Addr) (news : List Value) (hlen : news.length = m * 4) (hnews : ∀ j u, news[j]? = some u → W.cell? (ad.add j) = some u) (h1 : ∀ u ∈ news, u.oneCell' = true) (hm0 : 0 < m) (hm2 : s2.m = s.m + m) (hfl : flatR s2 = flatR s ++ news) (hb : s.m + m ≤ 1048577) :
    ∃ g cap w4, (Builtin.append_ #[54, 54] 54 #[.slice A s.m capv, .slice (some ad) m c]).run Try.prog W = .ok (.slice (some ⟨g, 0, none⟩) (s.m + m) cap) w4 ∧
      w4.heap[H]? = some (.cells #[.slice A s.m capv] 56 (0, 0)) ∧ RefV B (w4.setCell ⟨H, 0, none⟩ (.slice (some ⟨g, 0, none⟩) (s.m + m) cap)) H (.slice (some ⟨g, 0, none⟩) s2.m cap) s2 ∧ Tur (FootV H (.slice A s.m capv)) W (w4.setCell ⟨H, 0, none⟩ (.slice (some ⟨g, 0, none⟩) (s.m + m) cap)) ∧
      GrowV W H (.slice A s.m capv) (.slice (some ⟨g, 0, none⟩) s2.m cap) := by
  have sH := hW.ltH
  obtain ⟨i0, z0, hi, hz0, hz1, hz2, hz3⟩ := infoRE2
  obtain ⟨g, cap, w4, happ, hown, hG4, hat, hgl⟩ := run_append_lies (P := Try.prog) (w := W) 54 54 B 89 i0 z0 4 32 Try.underlying54 hi hz0 hz1 hz2 hz3 (by omega)
    (.slice A s.m capv) s.m (flatR s) hW.row ad m c news hlen hnews h1 hm0 (by unfold maxLen; omega) (by omega) hW.le W.heap.size rfl
  rw [← hfl] at hown
  have hgH : g ≠ H := by
    rcases hat with e | e
    · intro e2
      subst e2
      exact hW.ownNe e.symm
    · omega
  have H4 : w4.heap[H]? = some (.cells #[.slice A s.m capv] 56 (0, 0)) := (hG4.block H sH hW.ownNe).trans hW.blk
  refine ⟨g, cap, w4, happ, H4, ⟨hW.hB, at_of ⟨_, heap_setCell_same _ _ _ _ _ _ H4, ?_⟩, ?_⟩, ?_, ?_⟩
  · rw [hm2]; simp
  · rw [hm2]
    obtain ⟨h3, h4 | ⟨g', cap', cur, h5, hg', hh, rest⟩⟩ := hown
    · exact absurd h4.2 (by omega)
    · cases h5
      exact ⟨h3, .inr ⟨g, cap, cur, rfl, hg', heap_set_ne hgH hh, rest⟩⟩
  · exact (Tur.of_grown hG4 (fun g hg => .inl (.inr hg))).then (Tur.set _ (.inl (.inl rfl)))
  · rintro k (rfl | e)
    · exact .inl (.inl rfl)
    · injection e with e
      simp only at e
      subst e
      rcases hat with e | e
      · exact .inl (.inr e)
      · exact .inr (by omega)
set_option maxRecDepth 20000 in
set_option maxHeartbeats 4000000 in
theorem rinsert_form (_h : RefV B w H v s) (a c : Int) : Calls Try.prog 33 #[.pointer (some ⟨H, 0, none⟩), .agg #[.int .u64 a, .int .u64 0, .int .i64 c]] w fun e w' => e = .returned (.tuple #[.int .i64 0, .int .i64 4]) ∧ Below w.heap.size w w' := by
  go_enter Try.func33, Try.ntmps33
  go_wp2
  go_ret2
  exact ⟨rfl, (by repeat (first | with_reducible assumption | with_reducible exact Below.refl _ _ | with_reducible refine Below.drew ?_ | with_reducible refine below_drewN ?_ _ | with_reducible refine below_alloc ?_ _ | with_reducible refine Below.alloc ?_ (by first | omega | (simp; done) | (simp; omega)) _ | with_reducible refine Below.setCell ?_ (by first | omega | (simp; done) | (simp; omega)) _ | with_reducible refine below_setRow ?_ (by first | omega | (simp; done) | (simp; omega)) _))⟩
set_option maxRecDepth 100000 in
set_option maxHeartbeats 8000000 in
theorem rinsert_ok (k : K3) (h : RefV B w H v s) (hk : ¬ k.2.1 = 0) (hm : s.m < 1048576) :
    Calls Try.prog 33 #[.pointer (some ⟨H, 0, none⟩), .agg #[.int .u64 k.1, .int .u64 k.2.1, .int .i64 k.2.2]] w fun e w' => e = .returned (.tuple #[.int .i64 s.m, .int .i64 0]) ∧
      ∃ v', RefV B w' H v' (s.insS k) ∧ GrowV w H v v' ∧ Tur (FootV H v) w w' := by
  have HM := hid hm
  have HV := hid h
  obtain ⟨A, capv, rfl⟩ := h.shape
  obtain ⟨m, hme⟩ : ∃ m, m = s.m := ⟨_, rfl⟩
  have HME := hid hme
  obtain ⟨k0, k1, k2⟩ := k
  obtain ⟨c0, cf, -⟩ := h.head
  have hlH := h.ltH
  have hk1 : (k1 == 0) = false := by simpa using hk
  have hml : ¬ ((1048576 : Int) ≤ (m : Int)) := by omega
  have hmb : (m : Int) ≤ 1048576 := by omega
  rw [← hme] at c0 ⊢
  simp only
  clear h hk hm hme
  go_enter Try.func33, Try.ntmps33
  go_upto_region 5 with fail
  refine wp_name ?_
  intro w2 hw2
  have X2 : w2.heap[w.heap.size]? = some (.cells #[.int .u64 k0, .int .u64 k1, .int .i64 k2] 36 (0, 0)) := by rw [hw2]; exact (by (repeat (first | (with_reducible assumption) | (with_reducible exact alloc_at _ _) | ((with_reducible apply alloc_at'); (simp; done)) | (with_reducible apply alloc_at_lt) | (with_reducible apply heap_drew_at) | (with_reducible apply heap_drewN_at) | (with_reducible apply heap_setCell_same) | ((with_reducible apply heap_set_ne); (first | omega | (dsimp only; omega) | (simp; done) | (simp; omega))) | (with_reducible apply setRow_at) | ((with_reducible apply setRow_ne); (first | omega | (dsimp only; omega) | (simp; done) | (simp; omega))))))
  have B2 : Below w.heap.size w w2 := by rw [hw2]; exact (by repeat (first | with_reducible assumption | with_reducible exact Below.refl _ _ | with_reducible refine Below.drew ?_ | with_reducible refine below_drewN ?_ _ | with_reducible refine below_alloc ?_ _ | with_reducible refine Below.alloc ?_ (by first | omega | (simp; done) | (simp; omega)) _ | with_reducible refine Below.setCell ?_ (by first | omega | (simp; done) | (simp; omega)) _ | with_reducible refine below_setRow ?_ (by first | omega | (simp; done) | (simp; omega)) _))
  have HX2 := hid (HV.out.below B2)
  have HB2 := hid B2
  have s2 := lt_of_at X2
  have sH := HX2.out.ltH
  clear hw2 c0 cf B2
  have HX3 : RefV B (w2.alloc (.cells #[.int .u64 k0, .int .u64 k1, .int .i64 k2, .bool true] 89)).drew H (.slice A s.m capv) s := HX2.out.below (by repeat (first | with_reducible assumption | with_reducible exact Below.refl _ _ | with_reducible refine Below.drew ?_ | with_reducible refine below_drewN ?_ _ | with_reducible refine below_alloc ?_ _ | with_reducible refine Below.alloc ?_ (by first | omega | (simp; done) | (simp; omega)) _ | with_reducible refine Below.setCell ?_ (by first | omega | (simp; done) | (simp; omega)) _ | with_reducible refine below_setRow ?_ (by first | omega | (simp; done) | (simp; omega)) _))
  obtain ⟨g, cap, w4, happ, H4, hR5, hT5, hGR⟩ := app_stepR (c := 1) (s2 := s.insS (k0, k1, k2)) HX3 ⟨w2.heap.size, 0, none⟩ (entR (k0, k1, k2)) (m := 1) rfl (World.news_of_block (heap_drew_at (alloc_at w2 _))) (entR_one _) (by omega) rfl (flatR_ins s _) (by have := HM.out; omega)
  rw [← HME.out] at happ hR5 hT5
  have HR5 := hid hR5
  have HT5 : Hid (Tur (FootV H (.slice A m capv)) w (w4.setCell ⟨H, 0, none⟩ (.slice (some ⟨g, 0, none⟩) (m + 1) cap))) := by
    have t1 : Tur (FootV H (.slice A s.m capv)) w w2 := Tur.of_below HB2.out
    have t2 : Tur (FootV H (.slice A s.m capv)) w2 (w2.alloc (.cells #[.int .u64 k0, .int .u64 k1, .int .i64 k2, .bool true] 89)).drew := Tur.of_below (by repeat (first | with_reducible assumption | with_reducible exact Below.refl _ _ | with_reducible refine Below.drew ?_ | with_reducible refine below_drewN ?_ _ | with_reducible refine below_alloc ?_ _ | with_reducible refine Below.alloc ?_ (by first | omega | (simp; done) | (simp; omega)) _ | with_reducible refine Below.setCell ?_ (by first | omega | (simp; done) | (simp; omega)) _ | with_reducible refine below_setRow ?_ (by first | omega | (simp; done) | (simp; omega)) _))
    rw [HME.out] at hT5 ⊢
    exact (t1.then t2).then hT5
  have HGR : Hid (GrowV w H (.slice A m capv) (.slice (some ⟨g, 0, none⟩) (s.insS (k0, k1, k2)).m cap)) := by
    rw [HME.out]
    intro i hi
    rcases hGR i hi with q | q
    · exact .inl q
    · right; have := HB2.out.size; simp at q; omega
  have c0 : w2.cell? ⟨H, 0, none⟩ = some (.slice A m capv) := by rw [HME.out]; exact HX2.out.head.1
  have cf := blk_free HX2.out.blk
  have x0 : w2.cell? ⟨w.heap.size, 0, none⟩ = some (.int .u64 k0) := (blk_cell X2 0).trans rfl
  have x1 : w2.cell? ⟨w.heap.size, 1, none⟩ = some (.int .u64 k1) := (blk_cell X2 1).trans rfl
  have x2 : w2.cell? ⟨w.heap.size, 2, none⟩ = some (.int .i64 k2) := (blk_cell X2 2).trans rfl
  have d0 : w4.cell? ⟨H, 0, none⟩ = some (.slice A m capv) := by rw [HME.out]; exact (blk_cell H4 0).trans rfl
  have df := blk_free H4
  have HAPP := hid happ
  clear happ hR5 hT5 hGR X2 H4 HX3
  go_region_law (refine step_append_eq rfl (.tmp 20) (.tmp 23) 54 rfl (v := .slice A m capv) (y := .slice (some ⟨w2.heap.size, 0, none⟩) 1 1) (by simp [Act.eval]) (by simp [Act.eval]) HAPP.out ?_)
  all_goals
    clear x0 x1 x2 c0 cf
    go_wp2
    go_ret2
    exact ⟨rfl, _, HR5.out, HGR.out, HT5.out⟩
end Go.Proofs.Ythdbiablpkeagaa
