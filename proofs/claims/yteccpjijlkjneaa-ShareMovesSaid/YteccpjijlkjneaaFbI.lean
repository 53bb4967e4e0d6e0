/- Chapter 8's New, Len, Min, Insert over the heap in memory. -/
import Derived.Test.YteccpjijlkjneaaFbG
import Derived.Deep.RegionLaw
namespace Go.Proofs.Yteccpjijlkjneaa
open Go.RowKit
variable {B H g cap : Nat} {w w' : World} {s s' : Hp} {least n : Int}
/-- The heap at block H, whatever its slice is. -/
structure HeapV (B : Nat) (w : World) (H : Nat) (v : Value) (s : Hp) (least n : Int) : Prop where
  hB : B ≤ H
  blk : w.heap[H]? = some (.cells #[v, .int .i64 least, .int .i64 n] 78 (0, 0))
  row : w.ownsRow B 82 10 v s.m (flatH s)
def FootV (H : Nat) (v : Value) (k : Nat) : Prop := k = H ∨ v.ownBlock = some k
theorem HeapV.ltH {v : Value} (h : HeapV B w H v s least n) : H < w.heap.size := lt_of_at h.blk
theorem HeapV.le {v : Value} (h : HeapV B w H v s least n) : B ≤ w.heap.size := Nat.le_trans h.hB (Nat.le_of_lt h.ltH)
theorem HeapV.foot {v : Value} (h : HeapV B w H v s least n) : ∀ k, FootV H v k → B ≤ k := by
  rintro k (rfl | e)
  · exact h.hB
  · exact (h.row.lt k e).1
theorem HeapV.at {v : Value} (h : HeapV B w H v s least n) (e : ∀ k, FootV H v k → w'.heap[k]? = w.heap[k]?) : HeapV B w' H v s least n := by
  refine ⟨h.hB, (e H (.inl rfl)).trans h.blk, ?_⟩
  obtain ⟨h3, h4 | ⟨g', cap', cur, rfl, hg, hh, rest⟩⟩ := h.row
  · exact ⟨h3, .inl h4⟩
  · exact ⟨h3, .inr ⟨g', cap', cur, rfl, hg, (e g' (.inr rfl)).trans hh, rest⟩⟩
theorem HeapV.below {v : Value} (h : HeapV B w H v s least n) (hb : Below w.heap.size w w') : HeapV B w' H v s least n := h.at fun k hk => hb.block k (by
  rcases hk with rfl | e
  · exact h.ltH
  · exact (h.row.lt k e).2)
theorem HeapV.open_ {v : Value} (h : HeapV B w H v s least n) (hm : 0 < s.m) : ∃ g cap, v = .slice (some ⟨g, 0, none⟩) s.m cap ∧ HeapG B w H g cap s least n := by
  obtain ⟨g, cap, e, -⟩ := h.row.form hm
  subst e
  exact ⟨g, cap, rfl, h.hB, h.blk, h.row⟩
theorem HeapG.toV (h : HeapG B w H g cap s least n) : HeapV B w H (.slice (some ⟨g, 0, none⟩) s.m cap) s least n := ⟨h.hB, h.blk, h.row⟩
theorem foot_gv {k m : Nat} : FootG H g k ↔ FootV H (.slice (some ⟨g, 0, none⟩) m cap) k := by
  unfold FootG FootV
  constructor
  · rintro (e | e)
    · exact .inl e
    · subst e; exact .inr rfl
  · rintro (e | e)
    · exact .inl e
    · injection e with e; exact .inr e.symm
/-- The slice is as it was, or new. -/
def GrowV (w : World) (H : Nat) (v v' : Value) : Prop := ∀ k, FootV H v' k → FootV H v k ∨ w.heap.size ≤ k
/-- No entries. -/
def hp0 : Hp := ⟨0, fun _ => (0, 0, 0), fun _ => 0, fun _ => 0, fun _ => 0, fun _ => 0, fun _ => 0, fun _ => false, fun _ => false⟩
theorem good0 : Good hp0 0 0 := ⟨by decide, rfl, fun _ => [], [], ⟨(fun x h => by cases h), (fun x h => by cases h), (fun x h => by cases h), (fun x h => by cases h), (fun x h => by cases h), (fun x h => by cases h), (fun x h => by cases h), (fun x h => by cases h), List.nodup_nil, (fun x h => nomatch h), (fun x h => by cases h)⟩, ⟨trivial, List.nodup_nil, (fun x h => nomatch h), rfl, (fun r t e => nomatch e)⟩⟩
theorem newh_g (B : Nat) (w : World) (hB : B ≤ w.heap.size) : Calls Try.prog 21 #[] w fun e w' => e = .returned (.pointer (some ⟨w.heap.size, 0, none⟩)) ∧ Below w.heap.size w w' ∧ HeapV B w' w.heap.size (.slice none 0 0) hp0 0 0 := by
  go_enter Try.func21, Try.ntmps21
  go_wp2
  go_ret
  exact ⟨rfl, (by repeat (first | with_reducible assumption | with_reducible exact Below.refl _ _ | with_reducible refine Below.drew ?_ | with_reducible refine below_drewN ?_ _ | with_reducible refine below_alloc ?_ _ | with_reducible refine Below.alloc ?_ (by first | omega | (simp; done) | (simp; omega)) _ | with_reducible refine Below.setCell ?_ (by first | omega | (simp; done) | (simp; omega)) _ | with_reducible refine below_setRow ?_ (by first | omega | (simp; done) | (simp; omega)) _)), hB, (by (repeat (first | (with_reducible assumption) | (with_reducible exact alloc_at _ _) | ((with_reducible apply alloc_at'); (simp; done)) | (with_reducible apply alloc_at_lt) | (with_reducible apply heap_drew_at) | (with_reducible apply heap_drewN_at) | (with_reducible apply heap_setCell_same) | ((with_reducible apply heap_set_ne); (first | omega | (dsimp only; omega) | (simp; done) | (simp; omega))) | (with_reducible apply setRow_at) | ((with_reducible apply setRow_ne); (first | omega | (dsimp only; omega) | (simp; done) | (simp; omega)))))), World.ownsRow_nil _ _ _ _⟩
theorem len_g {v : Value} (h : HeapV B w H v s least n) : Calls Try.prog 24 #[.pointer (some ⟨H, 0, none⟩)] w fun e w' => e = .returned (.int .i64 n) ∧ w = w' := by
  have c2 : w.cell? ⟨H, 2, none⟩ = some (.int .i64 n) := (blk_cell h.blk 2).trans rfl
  clear h
  go_enter Try.func24, Try.ntmps24
  go_wp2
  go_ret
  exact ⟨rfl, rfl⟩
set_option maxRecDepth 20000 in
set_option maxHeartbeats 4000000 in
theorem min_none {v : Value} (h : HeapV B w H v s least n) (hn : n = 0) : Calls Try.prog 38 #[.pointer (some ⟨H, 0, none⟩)] w fun e w' => e = .returned (.tuple #[.int .i64 0, .agg #[.int .u64 0, .int .u64 0, .int .i64 0], .int .i64 3]) ∧ Below w.heap.size w w' := by
  subst hn
  have hl : ∀ W, Below w.heap.size w W → Calls Try.prog 24 #[.pointer (some ⟨H, 0, none⟩)] W fun e w' => e = .returned (.int .i64 0) ∧ W = w' := fun W hb => len_g (h.below hb)
  have HL := hid hl
  clear h hl
  go_enter Try.func38, Try.ntmps38
  go_wp2_with fail
  refine (HL.out _ (by repeat (first | with_reducible assumption | with_reducible exact Below.refl _ _ | with_reducible refine Below.drew ?_ | with_reducible refine below_drewN ?_ _ | with_reducible refine below_alloc ?_ _ | with_reducible refine Below.alloc ?_ (by first | omega | (simp; done) | (simp; omega)) _ | with_reducible refine Below.setCell ?_ (by first | omega | (simp; done) | (simp; omega)) _ | with_reducible refine below_setRow ?_ (by first | omega | (simp; done) | (simp; omega)) _))).mono ?_
  rintro e w1 ⟨rfl, rfl⟩
  go_wp2
  refine ret_row3 rfl w.heap.size #[.int .u64 0, .int .u64 0, .int .i64 0] 60 _ rfl Try.underlying60 rfl infoK rfl (by apply Exists.intro; refine ⟨?_, ?_⟩; (focus ((repeat (first | (with_reducible assumption) | (with_reducible exact alloc_at _ _) | ((with_reducible apply alloc_at'); (simp; done)) | (with_reducible apply alloc_at_lt) | (with_reducible apply heap_drew_at) | (with_reducible apply heap_drewN_at) | (with_reducible apply heap_setCell_same) | ((with_reducible apply heap_set_ne); (first | omega | (dsimp only; omega) | (simp; done) | (simp; omega))) | (with_reducible apply setRow_at) | ((with_reducible apply setRow_ne); (first | omega | (dsimp only; omega) | (simp; done) | (simp; omega))))))); simp) ⟨rfl, (by repeat (first | with_reducible assumption | with_reducible exact Below.refl _ _ | with_reducible refine Below.drew ?_ | with_reducible refine below_drewN ?_ _ | with_reducible refine below_alloc ?_ _ | with_reducible refine Below.alloc ?_ (by first | omega | (simp; done) | (simp; omega)) _ | with_reducible refine Below.setCell ?_ (by first | omega | (simp; done) | (simp; omega)) _ | with_reducible refine below_setRow ?_ (by first | omega | (simp; done) | (simp; omega)) _))⟩
set_option maxRecDepth 20000 in
set_option maxHeartbeats 4000000 in
theorem min_some {x : Nat} (h : HeapG B w H g cap s least n) (hl : least = (x : Int) + 1) (hx : x < s.m) (hm : s.m ≤ 1048576) (hn : 0 < n) :
    Calls Try.prog 38 #[.pointer (some ⟨H, 0, none⟩)] w fun e w' => e = .returned (.tuple #[.int .i64 x, .agg #[.int .u64 (s.key x).1, .int .u64 (s.key x).2.1, .int .i64 (s.key x).2.2], .int .i64 0]) ∧ Below w.heap.size w w' := by
  subst hl
  have hl : ∀ W, Below w.heap.size w W → Calls Try.prog 24 #[.pointer (some ⟨H, 0, none⟩)] W fun e w' => e = .returned (.int .i64 n) ∧ W = w' := fun W hb => len_g (h.toV.below hb)
  have HL := hid hl
  obtain ⟨c0, c1, -, cf⟩ := h.head
  obtain ⟨k0, k1, k2, -⟩ := h.cells hx
  have ix : (x : Int) < (s.m : Int) := by omega
  have ixb : (x : Int) ≤ 1048576 := by omega
  have i5 : IntKind.i64.wrap ((x : Int) + 1 - 1) = (x : Int) := by rw [show (x : Int) + 1 - 1 = (x : Int) by omega]; exact IntWalk.i64_in _ (by omega)
  have hnz : (n == 0) = false := by simp; omega
  have hlH := h.ltH
  have hlg := h.ltg
  generalize s.key x = k at *
  obtain ⟨z0, z1, z2⟩ := k
  simp only at k0 k1 k2 ⊢
  generalize s.m = m at *
  clear h hl hx hm hn
  go_enter Try.func38, Try.ntmps38
  go_wp2_with fail
  refine (HL.out _ (by repeat (first | with_reducible assumption | with_reducible exact Below.refl _ _ | with_reducible refine Below.drew ?_ | with_reducible refine below_drewN ?_ _ | with_reducible refine below_alloc ?_ _ | with_reducible refine Below.alloc ?_ (by first | omega | (simp; done) | (simp; omega)) _ | with_reducible refine Below.setCell ?_ (by first | omega | (simp; done) | (simp; omega)) _ | with_reducible refine below_setRow ?_ (by first | omega | (simp; done) | (simp; omega)) _))).mono ?_
  rintro e w1 ⟨rfl, rfl⟩
  go_wp2
  go_region_held3 (fun w' => w'.cell? ⟨H, 0, none⟩ = some (.slice (some ⟨g, 0, none⟩) m cap) ∧ w'.cell? ⟨g, x * 10, none⟩ = some (.int .u64 z0) ∧ w'.cell? ⟨g, x * 10 + 1, none⟩ = some (.int .u64 z1) ∧ w'.cell? ⟨g, x * 10 + 2, none⟩ = some (.int .i64 z2)) (go_keep) (fail)
  all_goals
    go_wp2
    refine ret_row3 rfl w.heap.size #[.int .u64 z0, .int .u64 z1, .int .i64 z2] 60 _ rfl Try.underlying60 rfl infoK rfl (by apply Exists.intro; refine ⟨?_, ?_⟩; (focus ((repeat (first | (with_reducible assumption) | (with_reducible exact alloc_at _ _) | ((with_reducible apply alloc_at'); (simp; done)) | (with_reducible apply alloc_at_lt) | (with_reducible apply heap_drew_at) | (with_reducible apply heap_drewN_at) | (with_reducible apply heap_setCell_same) | ((with_reducible apply heap_set_ne); (first | omega | (dsimp only; omega) | (simp; done) | (simp; omega))) | (with_reducible apply setRow_at) | ((with_reducible apply setRow_ne); (first | omega | (dsimp only; omega) | (simp; done) | (simp; omega))))))); simp) ⟨rfl, (by repeat (first | with_reducible assumption | with_reducible exact Below.refl _ _ | with_reducible refine Below.drew ?_ | with_reducible refine below_drewN ?_ _ | with_reducible refine below_alloc ?_ _ | with_reducible refine Below.alloc ?_ (by first | omega | (simp; done) | (simp; omega)) _ | with_reducible refine Below.setCell ?_ (by first | omega | (simp; done) | (simp; omega)) _ | with_reducible refine below_setRow ?_ (by first | omega | (simp; done) | (simp; omega)) _))⟩
def entC (k : K3) : List Value := [.int .u64 k.1, .int .u64 k.2.1, .int .i64 k.2.2, .int .i64 (-1), .int .i64 (-1), .int .i64 0, .int .i64 0, .int .i64 0, .bool false, .bool true]
theorem flatH_ins (s : Hp) (k : K3) : flatH (s.insS k) = flatH s ++ entC k := by
  refine List.ext_getElem? fun j => ?_
  by_cases hj : j < s.m * 10
  · have e := flatH_at s (i := j / 10) (c := j % 10) (by omega) (by omega)
    have e' := flatH_at (s.insS k) (i := j / 10) (c := j % 10) (by show j / 10 < s.m + 1; omega) (by omega)
    rw [show j / 10 * 10 + j % 10 = j by omega] at e e'
    rw [List.getElem?_append_left (by rw [flatH_length]; exact hj), e, e']
    have hne : j / 10 ≠ s.m := by omega
    have : cellH (s.insS k) (j / 10) = cellH s (j / 10) := by
      funext c
      unfold cellH Hp.insS
      simp only [up_ne _ _ hne]
    rw [this]
  · by_cases hj2 : j < (s.m + 1) * 10
    · have e' := flatH_at (s.insS k) (i := s.m) (c := j - s.m * 10) (Nat.lt_succ_self _) (by omega)
      rw [show s.m * 10 + (j - s.m * 10) = j by omega] at e'
      rw [List.getElem?_append_right (by rw [flatH_length]; omega), flatH_length, e']
      obtain ⟨c, hc, hc2⟩ : ∃ c, c = j - s.m * 10 ∧ c < 10 := ⟨_, rfl, by omega⟩
      rw [← hc]
      match c, hc2 with
      | 0, _ | 1, _ | 2, _ | 3, _ | 4, _ | 5, _ | 6, _ | 7, _ | 8, _ | 9, _ => simp [cellH, Hp.insS, up_same, entC]
    · rw [List.getElem?_eq_none (by rw [flatH_length]; show (s.m + 1) * 10 ≤ j; omega), List.getElem?_eq_none (by rw [List.length_append, flatH_length]; simp [entC]; omega)]
theorem infoEn : (Try.prog.info? 82).map (fun i => (i.zero, i.size, i.bytes)) = some (some (.agg #[.int .u64 0, .int .u64 0, .int .i64 0, .int .i64 0, .int .i64 0, .int .i64 0, .int .i64 0, .int .i64 0, .bool false, .bool false]), 10, 72) := by kernel_rfl
theorem insert_form {v : Value} (_h : HeapV B w H v s least n) (a c : Int) :
    Calls Try.prog 23 #[.pointer (some ⟨H, 0, none⟩), .agg #[.int .u64 a, .int .u64 0, .int .i64 c]] w fun e w' => e = .returned (.tuple #[.int .i64 0, .int .i64 4]) ∧ Below w.heap.size w w' := by
  go_enter Try.func23, Try.ntmps23
  go_wp2
  go_ret2
  exact ⟨rfl, (by repeat (first | with_reducible assumption | with_reducible exact Below.refl _ _ | with_reducible refine Below.drew ?_ | with_reducible refine below_drewN ?_ _ | with_reducible refine below_alloc ?_ _ | with_reducible refine Below.alloc ?_ (by first | omega | (simp; done) | (simp; omega)) _ | with_reducible refine Below.setCell ?_ (by first | omega | (simp; done) | (simp; omega)) _ | with_reducible refine below_setRow ?_ (by first | omega | (simp; done) | (simp; omega)) _))⟩
end Go.Proofs.Yteccpjijlkjneaa
