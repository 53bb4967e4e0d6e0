/- Chapter 14's queue beside blocks that must stand. -/
import Derived.Test.YtingeijodooocaaQuI
namespace Go.Proofs.Ytingeijodooocaa
open Go.RowKit
/-- The queue, and blocks between a and b that are none of its and stand as they were in wp. -/
structure QK (w0 w : World) (q : Nat) (L : List Wt) (c : Nat) (a : Nat) (wp : World) : Prop where
  ex : ∃ F, QB w0.heap.size w q L c F ∧ ∀ k, F k → k < a ∨ wp.heap.size ≤ k
  bel : Below w0.heap.size w0 w
  size : wp.heap.size ≤ w.heap.size
  kept : ∀ k, a ≤ k → k < wp.heap.size → w.heap[k]? = wp.heap[k]?
variable {w0 w w' wp : World} {q c a : Nat} {L : List Wt} {F : Nat → Prop}
theorem QK.qs (h : QK w0 w q L c a wp) : QS w0 w q L c := by
  obtain ⟨⟨F, h1, -⟩, h2, -⟩ := h
  exact ⟨⟨F, h1⟩, h2⟩
theorem QS.guard (h : QS w0 w q L c) (hb : Below w.heap.size w wp) : QK w0 wp q L c w.heap.size wp := by
  obtain ⟨⟨F, h1⟩, h2⟩ := h
  exact ⟨⟨F, h1.below hb, fun k hk => .inl (h1.foot hk).2⟩, h2.trans (hb.mono h2.size), Nat.le_refl _, fun _ _ _ => rfl⟩
theorem QK.below (h : QK w0 w q L c a wp) (hb : Below w.heap.size w w') : QK w0 w' q L c a wp := by
  obtain ⟨⟨F, h1, h3⟩, h2, h4, h5⟩ := h
  exact ⟨⟨F, h1.below hb, h3⟩, h2.trans (hb.mono h2.size), Nat.le_trans h4 hb.size, fun k k1 k2 => (hb.block k (Nat.lt_of_lt_of_le k2 h4)).trans (h5 k k1 k2)⟩
theorem QK.next {L' : List Wt} {c' : Nat} (h : QB w0.heap.size w q L c F) (h3 : ∀ k, F k → k < a ∨ wp.heap.size ≤ k) (h2 : Below w0.heap.size w0 w) (h4 : wp.heap.size ≤ w.heap.size) (h5 : ∀ k, a ≤ k → k < wp.heap.size → w.heap[k]? = wp.heap[k]?)
    (hn : QN w0.heap.size w w' q L' c' F) : QK w0 w' q L' c' a wp := by
  obtain ⟨F', q1, q2, q3⟩ := hn
  refine ⟨⟨F', q1, fun k hk => ?_⟩, h2.trans (q2.below h2.size fun k hk => (h.foot hk).1), Nat.le_trans h4 q2.size, fun k k1 k2 => ?_⟩
  · rcases q3 k hk with e | e
    · exact h3 k e
    · exact .inr (Nat.le_trans h4 e)
  · rw [q2.kept k (Nat.lt_of_lt_of_le k2 h4) (fun hk => by rcases h3 k hk with e | e <;> omega)]
    exact h5 k k1 k2
theorem qk_push (h : QK w0 w q L c a wp) {v : Wt} (hs : v.ten.size ≤ maxLen) (hc : c + 1 ≤ 1000) :
    Calls Try.prog 10 #[.pointer (some ⟨q, 0, none⟩), wtV v] w fun e w' => e = .returned (.int .i64 (errQ L v)) ∧ QK w0 w' q (pushQ L v) (c + 1) a wp := by
  obtain ⟨⟨F, h1, h3⟩, h2, h4, h5⟩ := h
  refine (qb_push h1 hs hc h2.size).mono ?_
  rintro e w' ⟨rfl, hn⟩
  exact ⟨rfl, QK.next h1 h3 h2 h4 h5 hn⟩
theorem qk_rem (h : QK w0 w q L c a wp) (j : Int) (hj : (Lit.int .i64 j).wf = true) :
    Calls Try.prog 17 #[.pointer (some ⟨q, 0, none⟩), .int .i64 j] w fun e w' => e = .returned (.int .i64 (remE L j)) ∧ QK w0 w' q (delQ j L) c a wp := by
  obtain ⟨⟨F, h1, h3⟩, h2, h4, h5⟩ := h
  refine (qb_rem h1 j hj).mono ?_
  rintro e w' ⟨rfl, hn⟩
  exact ⟨rfl, QK.next h1 h3 h2 h4 h5 hn⟩
/-- A row that stands. -/
theorem QK.row {z n : Nat} {T : TypeId} {v : Value} {xs : List Value} (h : QK w0 w q L c a wp) (hr : wp.ownsRow a T z v n xs) : w.ownsRow a T z v n xs :=
  rowR_kept hr fun b hb => h.kept b (hr.lt b hb).1 (hr.lt b hb).2
end Go.Proofs.Ytingeijodooocaa
