/- Chapter 8's reference heap in memory: a list of entries; Len, Get. -/
import Derived.Test.YthdbiablpkeagaaFbAA
import Derived.Test.YthdbiablpkeagaaFibV
namespace Go.Proofs.Ythdbiablpkeagaa
open Go.RowKit
/-- An entry's cells. -/
def cellR (s : Hp) (i : Nat) : Nat → Value
  | 0 => .int .u64 (s.key i).1
  | 1 => .int .u64 (s.key i).2.1
  | 2 => .int .i64 (s.key i).2.2
  | _ => .bool (s.th i)
def flatR (s : Hp) : List Value := (List.range (s.m * 4)).map (fun j => cellR s (j / 4) (j % 4))
theorem flatR_length (s : Hp) : (flatR s).length = s.m * 4 := by simp [flatR]
theorem flatR_at (s : Hp) {i c : Nat} (hi : i < s.m) (hc : c < 4) : (flatR s)[i * 4 + c]? = some (cellR s i c) := by
  unfold flatR
  rw [List.getElem?_map, List.getElem?_range (by omega)]
  show some (cellR s ((i * 4 + c) / 4) ((i * 4 + c) % 4)) = _
  rw [show (i * 4 + c) / 4 = i by omega, show (i * 4 + c) % 4 = c by omega]
theorem cellR_one (s : Hp) (i c : Nat) : (cellR s i c).oneCell' = true := by unfold cellR; split <;> rfl
theorem flatR_one (s : Hp) : ∀ u ∈ flatR s, u.oneCell' = true := by
  intro u hu
  obtain ⟨j, -, rfl⟩ := List.mem_map.1 hu
  exact cellR_one _ _ _
theorem flatR_same {s s' : Hp} (h : SameK s s') : flatR s' = flatR s := by
  unfold flatR
  rw [h.1]
  refine List.map_congr_left fun j _ => ?_
  unfold cellR
  rw [h.2.1, h.2.2]
/-- One cell is changed. -/
def UpdR (s : Hp) (x c : Nat) (v : Value) (s' : Hp) : Prop := s'.m = s.m ∧ ∀ i d, d < 4 → cellR s' i d = if i = x ∧ d = c then v else cellR s i d
theorem flatR_set {s s' : Hp} {x c : Nat} {v : Value} (h : UpdR s x c v s') (_hx : x < s.m) (hc : c < 4) : (flatR s).set (x * 4 + c) v = flatR s' := by
  refine List.ext_getElem? fun j => ?_
  by_cases hj : j < s.m * 4
  · have e' : (flatR s')[j]? = some (cellR s' (j / 4) (j % 4)) := by
      have := flatR_at s' (i := j / 4) (c := j % 4) (by rw [h.1]; omega) (by omega)
      rw [show j / 4 * 4 + j % 4 = j by omega] at this
      exact this
    have e : (flatR s)[j]? = some (cellR s (j / 4) (j % 4)) := by
      have := flatR_at s (i := j / 4) (c := j % 4) (by omega) (by omega)
      rw [show j / 4 * 4 + j % 4 = j by omega] at this
      exact this
    rw [e', h.2 _ _ (by omega), List.getElem?_set]
    by_cases q : x * 4 + c = j
    · rw [if_pos q, if_pos (by rw [flatR_length]; omega), if_pos (by omega)]
    · rw [if_neg q, if_neg (by omega), e]
  · rw [List.getElem?_eq_none (by rw [List.length_set, flatR_length]; omega), List.getElem?_eq_none (by rw [flatR_length, h.1]; omega)]
theorem updR_k0 (s : Hp) (x : Nat) (z : Int) : UpdR s x 0 (.int .u64 z) { s with key := up s.key x (z, (s.key x).2) } := ⟨rfl, fun i d hd => by
  match d, hd with
  | 0, _ | 1, _ | 2, _ | 3, _ => by_cases e : i = x <;> simp [cellR, up, e]⟩
theorem updR_k1 (s : Hp) (x : Nat) (z : Int) : UpdR s x 1 (.int .u64 z) { s with key := up s.key x ((s.key x).1, z, (s.key x).2.2) } := ⟨rfl, fun i d hd => by
  match d, hd with
  | 0, _ | 1, _ | 2, _ | 3, _ => by_cases e : i = x <;> simp [cellR, up, e]⟩
theorem updR_k2 (s : Hp) (x : Nat) (z : Int) : UpdR s x 2 (.int .i64 z) { s with key := up s.key x ((s.key x).1, (s.key x).2.1, z) } := ⟨rfl, fun i d hd => by
  match d, hd with
  | 0, _ | 1, _ | 2, _ | 3, _ => by_cases e : i = x <;> simp [cellR, up, e]⟩
theorem updR_th (s : Hp) (x : Nat) (z : Bool) : UpdR s x 3 (.bool z) { s with th := up s.th x z } := ⟨rfl, fun i d hd => by
  match d, hd with
  | 0, _ | 1, _ | 2, _ | 3, _ => by_cases e : i = x <;> simp [cellR, up, e]⟩
/-- The reference's heap. -/
structure RefV (B : Nat) (w : World) (H : Nat) (v : Value) (s : Hp) : Prop where
  hB : B ≤ H
  blk : w.heap[H]? = some (.cells #[v] 56 (0, 0))
  row : w.ownsRow B 89 4 v s.m (flatR s)
variable {B H g cap : Nat} {w w' : World} {s s' : Hp} {v : Value}
theorem RefV.ltH (h : RefV B w H v s) : H < w.heap.size := lt_of_at h.blk
theorem RefV.le (h : RefV B w H v s) : B ≤ w.heap.size := Nat.le_trans h.hB (Nat.le_of_lt h.ltH)
theorem RefV.foot (h : RefV B w H v s) : ∀ k, FootV H v k → B ≤ k := by
  rintro k (rfl | e)
  · exact h.hB
  · exact (h.row.lt k e).1
theorem RefV.same (h : RefV B w H v s) (k : SameK s s') : RefV B w H v s' := ⟨h.hB, h.blk, by rw [k.1, flatR_same k]; exact h.row⟩
theorem RefV.at (h : RefV B w H v s) (e : ∀ k, FootV H v k → w'.heap[k]? = w.heap[k]?) : RefV B w' H v s := by
  refine ⟨h.hB, (e H (.inl rfl)).trans h.blk, ?_⟩
  obtain ⟨h3, h4 | ⟨g', cap', cur, rfl, hg, hh, rest⟩⟩ := h.row
  · exact ⟨h3, .inl h4⟩
  · exact ⟨h3, .inr ⟨g', cap', cur, rfl, hg, (e g' (.inr rfl)).trans hh, rest⟩⟩
theorem RefV.below (h : RefV B w H v s) (hb : Below w.heap.size w w') : RefV B w' H v s := h.at fun k hk => hb.block k (by
  rcases hk with rfl | e
  · exact h.ltH
  · exact (h.row.lt k e).2)
/-- Its cells, where it has entries. -/
theorem RefV.open_ (h : RefV B w H v s) (hm : 0 < s.m) : ∃ g cap, v = .slice (some ⟨g, 0, none⟩) s.m cap ∧ g ≠ H ∧ g < w.heap.size ∧ (∀ o, w.frozen? ⟨g, o, none⟩ = false) ∧ ∀ i, i < s.m → w.cell? ⟨g, i * 4, none⟩ = some (.int .u64 (s.key i).1) ∧ w.cell? ⟨g, i * 4 + 1, none⟩ = some (.int .u64 (s.key i).2.1) ∧ w.cell? ⟨g, i * 4 + 2, none⟩ = some (.int .i64 (s.key i).2.2) ∧ w.cell? ⟨g, i * 4 + 3, none⟩ = some (.bool (s.th i)) := by
  obtain ⟨g, cap, e, -⟩ := h.row.form hm
  subst e
  obtain ⟨-, ⟨h3, -⟩ | ⟨g', cap', cur, h3, hg, hh, -, -, -, ht⟩⟩ := h.row
  · cases h3
  · cases h3
    refine ⟨g, cap, rfl, fun e => ?_, lt_of_at hh, blk_free hh, fun i hi => ?_⟩
    · rw [e, h.blk] at hh
      injection hh with hh
      injection hh with _ h5
      exact absurd h5 (by decide)
    · have key : ∀ c, c < 4 → w.cell? ⟨g, i * 4 + c, none⟩ = some (cellR s i c) := fun c hc => by
        rw [blk_cell hh]
        have := flatR_at s hi hc
        rw [← ht, List.getElem?_take] at this
        split at this
        · simpa using this
        · cases this
      exact ⟨key 0 (by omega), key 1 (by omega), key 2 (by omega), key 3 (by omega)⟩
theorem RefV.head (h : RefV B w H v s) : w.cell? ⟨H, 0, none⟩ = some v ∧ (∀ o, w.frozen? ⟨H, o, none⟩ = false) ∧ ∃ A cap, v = .slice A s.m cap := by
  refine ⟨(blk_cell h.blk 0).trans rfl, blk_free h.blk, ?_⟩
  rcases h.row.2 with ⟨e1, e2⟩ | ⟨g, cap, -, e1, -⟩
  · exact ⟨none, 0, by rw [e1, e2]⟩
  · exact ⟨_, cap, e1⟩
set_option maxRecDepth 20000 in
set_option maxHeartbeats 4000000 in
theorem rget_no (x : Int) (h : RefV B w H v s) (hx : ¬ s.has x) : Calls Try.prog 38 #[.pointer (some ⟨H, 0, none⟩), .int .i64 x] w fun e w' => e = .returned (.tuple #[.agg #[.int .u64 0, .int .u64 0, .int .i64 0], .int .i64 3]) ∧ Below w.heap.size w w' := by
  have infoR : (Try.prog.info? 36).map (·.size) = some 3 := by kernel_rfl
  obtain ⟨c0, cf, A, cap, e⟩ := h.head
  have hl := h.ltH
  by_cases h1 : x < 0
  · clear h hx e
    go_enter Try.func38, Try.ntmps38
    go_wp2
    refine ret_row2 rfl w.heap.size #[.int .u64 0, .int .u64 0, .int .i64 0] 36 _ rfl Try.underlying36 rfl infoR rfl (by apply Exists.intro; refine ⟨?_, ?_⟩; (focus ((repeat (first | (with_reducible assumption) | (with_reducible exact alloc_at _ _) | ((with_reducible apply alloc_at'); (simp; done)) | (with_reducible apply alloc_at_lt) | (with_reducible apply heap_drew_at) | (with_reducible apply heap_drewN_at) | (with_reducible apply heap_setCell_same) | ((with_reducible apply heap_set_ne); (first | omega | (dsimp only; omega) | (simp; done) | (simp; omega))) | (with_reducible apply setRow_at) | ((with_reducible apply setRow_ne); (first | omega | (dsimp only; omega) | (simp; done) | (simp; omega))))))); simp) ⟨rfl, (by repeat (first | with_reducible assumption | with_reducible exact Below.refl _ _ | with_reducible refine Below.drew ?_ | with_reducible refine below_drewN ?_ _ | with_reducible refine below_alloc ?_ _ | with_reducible refine Below.alloc ?_ (by first | omega | (simp; done) | (simp; omega)) _ | with_reducible refine Below.setCell ?_ (by first | omega | (simp; done) | (simp; omega)) _ | with_reducible refine below_setRow ?_ (by first | omega | (simp; done) | (simp; omega)) _))⟩
  · by_cases h2 : x < (s.m : Int)
    · obtain ⟨g, cap2, rfl, -, hgl, gf, hc⟩ := h.open_ (by omega)
      obtain ⟨y, rfl⟩ : ∃ y : Nat, x = (y : Int) := ⟨x.toNat, by omega⟩
      obtain ⟨-, -, -, y3⟩ := hc y (by omega)
      have ht : s.th y = false := by
        cases q : s.th y with
        | false => rfl
        | true => exact absurd ⟨by omega, h2, q⟩ hx
      rw [ht] at y3
      clear h hx e hc ht h1
      generalize s.m = m at *
      go_enter Try.func38, Try.ntmps38
      go_wp2
      refine ret_row2 rfl w.heap.size #[.int .u64 0, .int .u64 0, .int .i64 0] 36 _ rfl Try.underlying36 rfl infoR rfl (by apply Exists.intro; refine ⟨?_, ?_⟩; (focus ((repeat (first | (with_reducible assumption) | (with_reducible exact alloc_at _ _) | ((with_reducible apply alloc_at'); (simp; done)) | (with_reducible apply alloc_at_lt) | (with_reducible apply heap_drew_at) | (with_reducible apply heap_drewN_at) | (with_reducible apply heap_setCell_same) | ((with_reducible apply heap_set_ne); (first | omega | (dsimp only; omega) | (simp; done) | (simp; omega))) | (with_reducible apply setRow_at) | ((with_reducible apply setRow_ne); (first | omega | (dsimp only; omega) | (simp; done) | (simp; omega))))))); simp) ⟨rfl, (by repeat (first | with_reducible assumption | with_reducible exact Below.refl _ _ | with_reducible refine Below.drew ?_ | with_reducible refine below_drewN ?_ _ | with_reducible refine below_alloc ?_ _ | with_reducible refine Below.alloc ?_ (by first | omega | (simp; done) | (simp; omega)) _ | with_reducible refine Below.setCell ?_ (by first | omega | (simp; done) | (simp; omega)) _ | with_reducible refine below_setRow ?_ (by first | omega | (simp; done) | (simp; omega)) _))⟩
    · subst e
      clear h hx
      generalize s.m = m at *
      go_enter Try.func38, Try.ntmps38
      go_wp2
      refine ret_row2 rfl w.heap.size #[.int .u64 0, .int .u64 0, .int .i64 0] 36 _ rfl Try.underlying36 rfl infoR rfl (by apply Exists.intro; refine ⟨?_, ?_⟩; (focus ((repeat (first | (with_reducible assumption) | (with_reducible exact alloc_at _ _) | ((with_reducible apply alloc_at'); (simp; done)) | (with_reducible apply alloc_at_lt) | (with_reducible apply heap_drew_at) | (with_reducible apply heap_drewN_at) | (with_reducible apply heap_setCell_same) | ((with_reducible apply heap_set_ne); (first | omega | (dsimp only; omega) | (simp; done) | (simp; omega))) | (with_reducible apply setRow_at) | ((with_reducible apply setRow_ne); (first | omega | (dsimp only; omega) | (simp; done) | (simp; omega))))))); simp) ⟨rfl, (by repeat (first | with_reducible assumption | with_reducible exact Below.refl _ _ | with_reducible refine Below.drew ?_ | with_reducible refine below_drewN ?_ _ | with_reducible refine below_alloc ?_ _ | with_reducible refine Below.alloc ?_ (by first | omega | (simp; done) | (simp; omega)) _ | with_reducible refine Below.setCell ?_ (by first | omega | (simp; done) | (simp; omega)) _ | with_reducible refine below_setRow ?_ (by first | omega | (simp; done) | (simp; omega)) _))⟩
set_option maxRecDepth 20000 in
set_option maxHeartbeats 4000000 in
theorem rget_yes {x : Nat} (h : RefV B w H v s) (hx : x < s.m) (ht : s.th x = true) : Calls Try.prog 38 #[.pointer (some ⟨H, 0, none⟩), .int .i64 x] w fun e w' => e = .returned (.tuple #[.agg #[.int .u64 (s.key x).1, .int .u64 (s.key x).2.1, .int .i64 (s.key x).2.2], .int .i64 0]) ∧ Below w.heap.size w w' := by
  have infoR : (Try.prog.info? 36).map (·.size) = some 3 := by kernel_rfl
  obtain ⟨c0, cf, -⟩ := h.head
  have hl := h.ltH
  obtain ⟨g, cap, rfl, -, hgl, gf, hc⟩ := h.open_ (by omega)
  obtain ⟨k0, k1, k2, k3⟩ := hc x hx
  rw [ht] at k3
  have ix : (x : Int) < (s.m : Int) := by omega
  generalize s.key x = k at *
  obtain ⟨z0, z1, z2⟩ := k
  simp only at k0 k1 k2 ⊢
  clear h hx ht hc
  generalize s.m = m at *
  go_enter Try.func38, Try.ntmps38
  go_wp2
  refine ret_row2 rfl w.heap.size #[.int .u64 z0, .int .u64 z1, .int .i64 z2] 36 _ rfl Try.underlying36 rfl infoR rfl (by apply Exists.intro; refine ⟨?_, ?_⟩; (focus ((repeat (first | (with_reducible assumption) | (with_reducible exact alloc_at _ _) | ((with_reducible apply alloc_at'); (simp; done)) | (with_reducible apply alloc_at_lt) | (with_reducible apply heap_drew_at) | (with_reducible apply heap_drewN_at) | (with_reducible apply heap_setCell_same) | ((with_reducible apply heap_set_ne); (first | omega | (dsimp only; omega) | (simp; done) | (simp; omega))) | (with_reducible apply setRow_at) | ((with_reducible apply setRow_ne); (first | omega | (dsimp only; omega) | (simp; done) | (simp; omega))))))); simp) ⟨rfl, (by repeat (first | with_reducible assumption | with_reducible exact Below.refl _ _ | with_reducible refine Below.drew ?_ | with_reducible refine below_drewN ?_ _ | with_reducible refine below_alloc ?_ _ | with_reducible refine Below.alloc ?_ (by first | omega | (simp; done) | (simp; omega)) _ | with_reducible refine Below.setCell ?_ (by first | omega | (simp; done) | (simp; omega)) _ | with_reducible refine below_setRow ?_ (by first | omega | (simp; done) | (simp; omega)) _))⟩
end Go.Proofs.Ythdbiablpkeagaa
