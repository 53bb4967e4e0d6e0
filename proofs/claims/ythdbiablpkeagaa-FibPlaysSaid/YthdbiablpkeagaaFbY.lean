/- Chapter 8's has and Get over the heap in memory. -/
import Derived.Test.YthdbiablpkeagaaFbI
import Derived.Test.YthdbiablpkeagaaFbQ
import Derived.Test.YthdbiablpkeagaaFbX
namespace Go.Proofs.Ythdbiablpkeagaa
open Go.RowKit
variable {B H g cap : Nat} {w w' : World} {s s' : Hp} {least n : Int}
def Hp.has (s : Hp) (x : Int) : Prop := 0 ≤ x ∧ x < (s.m : Int) ∧ s.th x.toNat = true
instance (s : Hp) (x : Int) : Decidable (s.has x) := by unfold Hp.has; infer_instance
set_option maxRecDepth 20000 in
set_option maxHeartbeats 4000000 in
theorem has_g {v : Value} (x : Int) (h : HeapV B w H v s least n) : Calls Try.prog 28 #[.pointer (some ⟨H, 0, none⟩), .int .i64 x] w fun e w' => e = .returned (.bool (decide (s.has x))) ∧ w = w' := by
  have c0 : w.cell? ⟨H, 0, none⟩ = some v := (blk_cell h.blk 0).trans rfl
  have cf := blk_free h.blk
  by_cases h1 : 0 ≤ x
  · by_cases h2 : x < (s.m : Int)
    · obtain ⟨g, cap, rfl, hG⟩ := h.open_ (by omega)
      obtain ⟨y, rfl⟩ : ∃ y : Nat, x = (y : Int) := ⟨x.toNat, by omega⟩
      obtain ⟨-, -, -, -, -, -, -, -, -, y9⟩ := hG.cells (i := y) (by omega)
      have gf := hG.free
      have e : decide (s.has (y : Int)) = s.th y := by
        by_cases q : s.th y = true
        · rw [q]; exact decide_eq_true ⟨h1, h2, q⟩
        · rw [Bool.not_eq_true] at q
          rw [q]; exact decide_eq_false (fun h => by have := h.2.2; simp [q] at this)
      rw [e]
      generalize s.th y = q at *
      have i1 : decide ((0 : Int) ≤ (y : Int)) = true := by simp
      clear h hG e
      generalize s.m = m at *
      go_enter Try.func28, Try.ntmps28
      go_wp2
      go_ret
      exact ⟨rfl, rfl⟩
    · have e : decide (s.has x) = false := decide_eq_false (fun h => h2 h.2.1)
      rw [e]
      obtain ⟨A, cap, rfl⟩ : ∃ A cap, v = .slice A s.m cap := by
        rcases h.row.2 with ⟨e1, e2⟩ | ⟨g, cap, -, e1, -⟩
        · exact ⟨none, 0, by rw [e1, e2]⟩
        · exact ⟨_, cap, e1⟩
      clear h e
      generalize s.m = m at *
      go_enter Try.func28, Try.ntmps28
      go_wp2
      go_ret
      exact ⟨rfl, rfl⟩
  · have e : decide (s.has x) = false := decide_eq_false (fun h => h1 h.1)
    rw [e]
    clear h e
    go_enter Try.func28, Try.ntmps28
    go_wp2
    go_ret
    exact ⟨rfl, rfl⟩
set_option maxRecDepth 20000 in
set_option maxHeartbeats 4000000 in
theorem get_no {v : Value} (x : Int) (h : HeapV B w H v s least n) (hx : ¬ s.has x) : Calls Try.prog 16 #[.pointer (some ⟨H, 0, none⟩), .int .i64 x] w fun e w' => e = .returned (.tuple #[.agg #[.int .u64 0, .int .u64 0, .int .i64 0], .int .i64 3]) ∧ Below w.heap.size w w' := by
  have HL : Hid (∀ W, Below w.heap.size w W → Calls Try.prog 28 #[.pointer (some ⟨H, 0, none⟩), .int .i64 x] W fun e w' => e = .returned (.bool false) ∧ W = w') := fun W hb => by
    have := has_g x (h.below hb)
    rw [decide_eq_false hx] at this
    exact this
  clear h hx
  go_enter Try.func16, Try.ntmps16
  go_wp2_with fail
  refine (HL.out _ (by repeat (first | with_reducible assumption | with_reducible exact Below.refl _ _ | with_reducible refine Below.drew ?_ | with_reducible refine below_drewN ?_ _ | with_reducible refine below_alloc ?_ _ | with_reducible refine Below.alloc ?_ (by first | omega | (simp; done) | (simp; omega)) _ | with_reducible refine Below.setCell ?_ (by first | omega | (simp; done) | (simp; omega)) _ | with_reducible refine below_setRow ?_ (by first | omega | (simp; done) | (simp; omega)) _))).mono ?_
  rintro e w1 ⟨rfl, rfl⟩
  go_wp2
  refine ret_row2 rfl w.heap.size #[.int .u64 0, .int .u64 0, .int .i64 0] 33 _ rfl Try.underlying33 rfl infoK rfl (by apply Exists.intro; refine ⟨?_, ?_⟩; (focus ((repeat (first | (with_reducible assumption) | (with_reducible exact alloc_at _ _) | ((with_reducible apply alloc_at'); (simp; done)) | (with_reducible apply alloc_at_lt) | (with_reducible apply heap_drew_at) | (with_reducible apply heap_drewN_at) | (with_reducible apply heap_setCell_same) | ((with_reducible apply heap_set_ne); (first | omega | (dsimp only; omega) | (simp; done) | (simp; omega))) | (with_reducible apply setRow_at) | ((with_reducible apply setRow_ne); (first | omega | (dsimp only; omega) | (simp; done) | (simp; omega))))))); simp) ⟨rfl, (by repeat (first | with_reducible assumption | with_reducible exact Below.refl _ _ | with_reducible refine Below.drew ?_ | with_reducible refine below_drewN ?_ _ | with_reducible refine below_alloc ?_ _ | with_reducible refine Below.alloc ?_ (by first | omega | (simp; done) | (simp; omega)) _ | with_reducible refine Below.setCell ?_ (by first | omega | (simp; done) | (simp; omega)) _ | with_reducible refine below_setRow ?_ (by first | omega | (simp; done) | (simp; omega)) _))⟩
set_option maxRecDepth 20000 in
set_option maxHeartbeats 4000000 in
theorem get_yes {x : Nat} (h : HeapG B w H g cap s least n) (hx : x < s.m) (ht : s.th x = true) : Calls Try.prog 16 #[.pointer (some ⟨H, 0, none⟩), .int .i64 x] w fun e w' => e = .returned (.tuple #[.agg #[.int .u64 (s.key x).1, .int .u64 (s.key x).2.1, .int .i64 (s.key x).2.2], .int .i64 0]) ∧ Below w.heap.size w w' := by
  have HL : Hid (∀ W, Below w.heap.size w W → Calls Try.prog 28 #[.pointer (some ⟨H, 0, none⟩), .int .i64 x] W fun e w' => e = .returned (.bool true) ∧ W = w') := fun W hb => by
    have := has_g (x : Int) (h.toV.below hb)
    rw [decide_eq_true (by unfold Hp.has; simp; exact ⟨hx, ht⟩)] at this
    exact this
  obtain ⟨c0, -, -, cf⟩ := h.head
  obtain ⟨k0, k1, k2, -⟩ := h.cells hx
  have gf := h.free
  have ix : (x : Int) < (s.m : Int) := by omega
  have hlH := h.ltH
  have hlg := h.ltg
  generalize s.key x = k at *
  obtain ⟨z0, z1, z2⟩ := k
  simp only at k0 k1 k2 ⊢
  generalize s.m = m at *
  clear h hx ht
  go_enter Try.func16, Try.ntmps16
  go_wp2_with fail
  refine (HL.out _ (by repeat (first | with_reducible assumption | with_reducible exact Below.refl _ _ | with_reducible refine Below.drew ?_ | with_reducible refine below_drewN ?_ _ | with_reducible refine below_alloc ?_ _ | with_reducible refine Below.alloc ?_ (by first | omega | (simp; done) | (simp; omega)) _ | with_reducible refine Below.setCell ?_ (by first | omega | (simp; done) | (simp; omega)) _ | with_reducible refine below_setRow ?_ (by first | omega | (simp; done) | (simp; omega)) _))).mono ?_
  rintro e w1 ⟨rfl, rfl⟩
  go_wp2
  refine ret_row2 rfl w.heap.size #[.int .u64 z0, .int .u64 z1, .int .i64 z2] 33 _ rfl Try.underlying33 rfl infoK rfl (by apply Exists.intro; refine ⟨?_, ?_⟩; (focus ((repeat (first | (with_reducible assumption) | (with_reducible exact alloc_at _ _) | ((with_reducible apply alloc_at'); (simp; done)) | (with_reducible apply alloc_at_lt) | (with_reducible apply heap_drew_at) | (with_reducible apply heap_drewN_at) | (with_reducible apply heap_setCell_same) | ((with_reducible apply heap_set_ne); (first | omega | (dsimp only; omega) | (simp; done) | (simp; omega))) | (with_reducible apply setRow_at) | ((with_reducible apply setRow_ne); (first | omega | (dsimp only; omega) | (simp; done) | (simp; omega))))))); simp) ⟨rfl, (by repeat (first | with_reducible assumption | with_reducible exact Below.refl _ _ | with_reducible refine Below.drew ?_ | with_reducible refine below_drewN ?_ _ | with_reducible refine below_alloc ?_ _ | with_reducible refine Below.alloc ?_ (by first | omega | (simp; done) | (simp; omega)) _ | with_reducible refine Below.setCell ?_ (by first | omega | (simp; done) | (simp; omega)) _ | with_reducible refine below_setRow ?_ (by first | omega | (simp; done) | (simp; omega)) _))⟩
end Go.Proofs.Ythdbiablpkeagaa
