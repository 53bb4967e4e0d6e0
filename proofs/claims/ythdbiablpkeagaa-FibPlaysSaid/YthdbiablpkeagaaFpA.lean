/- FibPlays: three heaps and their references side by side. -/
import Derived.Test.YthdbiablpkeagaaRfG
import Derived.Test.YthdbiablpkeagaaRfH
import Derived.Test.YthdbiablpkeagaaWFibM
import Derived.Test.YthdbiablpkeagaaFibV
namespace Go.Proofs.Ythdbiablpkeagaa
open Go.RowKit
variable {B N : Nat} {A : Nat → Nat} {Q : Nat → Prop} {w w' : World} {V V' : Nat → Value} {s s' r r' : Nat → Hp} {l l' n n' : Nat → Int}
/-- Nothing of Q is turned. -/
def Kp (Q : Nat → Prop) (w w' : World) : Prop := Tur (fun k => ¬ Q k) w w'
def Qx (Q : Nat → Prop) (a b : Nat) (k : Nat) : Prop := Q k ∨ (a ≤ k ∧ k < b)
/-- Three heaps (0, 1, 2), three references (3, 4, 5): no block is shared, none of Q among them. -/
structure Pl (B : Nat) (w : World) (A : Nat → Nat) (N : Nat) (Q : Nat → Prop) (V : Nat → Value) (s r : Nat → Hp) (l n : Nat → Int) : Prop where
  hp : ∀ i, i < 3 → HeapV B w (A i) (V i) (s i) (l i) (n i) ∧ Good (s i) (l i) (n i)
  rf : ∀ i, i < 3 → RefV B w (A (i + 3)) (V (i + 3)) (r i)
  ap : ∀ i j, i < 6 → j < 6 → i ≠ j → Ap (A i) (V i) (A j) (V j)
  tot : (s 0).m + (s 1).m + (s 2).m ≤ N
  ql : ∀ k, Q k → k < w.heap.size
  qf : ∀ i, i < 6 → ∀ k, FootV (A i) (V i) k → ¬ Q k
theorem six {i : Nat} (h : i < 6) : i < 3 ∨ ∃ j, j < 3 ∧ i = j + 3 := by
  by_cases q : i < 3
  · exact .inl q
  · exact .inr ⟨i - 3, by omega, by omega⟩
theorem Pl.lt (h : Pl B w A N Q V s r l n) {i k : Nat} (hi : i < 6) (hk : FootV (A i) (V i) k) : k < w.heap.size ∧ B ≤ k := by
  rcases six hi with q | ⟨j, hj, rfl⟩
  · exact ⟨FootV.lt (h.hp i q).1 hk, (h.hp i q).1.foot k hk⟩
  · have hr := h.rf j hj
    refine ⟨?_, hr.foot k hk⟩
    rcases hk with rfl | e
    · exact hr.ltH
    · exact (hr.row.lt k e).2
theorem Pl.step {C : Nat → Prop} {T : Nat → Prop} {g N' : Nat} (h : Pl B w A N Q V s r l n) (t : Tur T w w') (hT : ∀ k, T k → ∃ i, i < 6 ∧ C i ∧ FootV (A i) (V i) k)
    (hV : ∀ i, i < 6 → ¬ C i → V' i = V i) (hs : ∀ i, i < 3 → ¬ C i → s' i = s i ∧ l' i = l i ∧ n' i = n i) (hr : ∀ i, i < 3 → ¬ C (i + 3) → r' i = r i)
    (hp' : ∀ i, i < 3 → C i → HeapV B w' (A i) (V' i) (s' i) (l' i) (n' i) ∧ Good (s' i) (l' i) (n' i)) (rf' : ∀ i, i < 3 → C (i + 3) → RefV B w' (A (i + 3)) (V' (i + 3)) (r' i))
    (gr : ∀ k, FootV (A g) (V' g) k → FootV (A g) (V g) k ∨ w.heap.size ≤ k) (sh : ∀ i, i < 6 → i ≠ g → ∀ k, FootV (A i) (V' i) k → FootV (A i) (V i) k)
    (ht : (s' 0).m + (s' 1).m + (s' 2).m ≤ N') : Pl B w' A N' Q V' s' r' l' n' ∧ Kp Q w w' := by
  have hoff : ∀ i, i < 6 → ¬ C i → ∀ k, FootV (A i) (V i) k → w'.heap[k]? = w.heap[k]? := fun i hi hc k hk => t.kept k (h.lt hi hk).1 (fun hTk => by
    obtain ⟨j, hj, cj, hjk⟩ := hT k hTk
    have hne : i ≠ j := fun e => hc (e ▸ cj)
    exact h.ap i j hi hj hne k hk hjk)
  have hnew : ∀ i, i < 6 → ∀ k, FootV (A i) (V' i) k → FootV (A i) (V i) k ∨ (i = g ∧ w.heap.size ≤ k) := fun i hi k hk => by
    by_cases e : i = g
    · subst e
      rcases gr k hk with q | q
      · exact .inl q
      · exact .inr ⟨rfl, q⟩
    · exact .inl (sh i hi e k hk)
  refine ⟨⟨fun i hi => ?_, fun i hi => ?_, fun i j hi hj hne k hk hk2 => ?_, ht, fun k hk => Nat.lt_of_lt_of_le (h.ql k hk) t.size, fun i hi k hk hq => ?_⟩, t.mono fun k hk => ?_⟩
  · by_cases c : C i
    · exact hp' i hi c
    · obtain ⟨e1, e2, e3⟩ := hs i hi c
      rw [hV i (by omega) c, e1, e2, e3]
      exact ⟨(h.hp i hi).1.at (hoff i (by omega) c), (h.hp i hi).2⟩
  · by_cases c : C (i + 3)
    · exact rf' i hi c
    · rw [hV (i + 3) (by omega) c, hr i hi c]
      exact (h.rf i hi).at (hoff (i + 3) (by omega) c)
  · rcases hnew i hi k hk with q | ⟨q1, q2⟩
    · rcases hnew j hj k hk2 with p | ⟨p1, p2⟩
      · exact h.ap i j hi hj hne k q p
      · have := (h.lt hi q).1; omega
    · rcases hnew j hj k hk2 with p | ⟨p1, p2⟩
      · have := (h.lt hj p).1; omega
      · exact hne (q1.trans p1.symm)
  · rcases hnew i hi k hk with q | ⟨q1, q2⟩
    · exact h.qf i hi k q hq
    · have := h.ql k hq; omega
  · obtain ⟨i, hi, -, hf⟩ := hT k hk
    exact .inl (h.qf i hi k hf)
theorem Pl.same (h : Pl B w A N Q V s r l n) (hr : ∀ i, i < 3 → SameK (r i) (r' i)) : Pl B w A N Q V s r' l n := ⟨h.hp, fun i hi => (h.rf i hi).same (hr i hi), h.ap, h.tot, h.ql, h.qf⟩
theorem Pl.below (h : Pl B w A N Q V s r l n) (hb : Below w.heap.size w w') : Pl B w' A N (Qx Q w.heap.size w'.heap.size) V s r l n :=
  ⟨fun i hi => ⟨(h.hp i hi).1.below hb, (h.hp i hi).2⟩, fun i hi => (h.rf i hi).below hb, h.ap, h.tot, fun k hk => by
    rcases hk with q | q
    · exact Nat.lt_of_lt_of_le (h.ql k q) hb.size
    · exact q.2, fun i hi k hk hq => by
    rcases hq with q | q
    · exact h.qf i hi k hk q
    · have := (h.lt hi hk).1; omega⟩
theorem Pl.less {Q' : Nat → Prop} (h : Pl B w A N Q V s r l n) (hq : ∀ k, Q' k → Q k) : Pl B w A N Q' V s r l n := ⟨h.hp, h.rf, h.ap, h.tot, fun k hk => h.ql k (hq k hk), fun i hi k hk q => h.qf i hi k hk (hq k q)⟩
theorem three {i : Nat} (h : i < 3) : i = 0 ∨ i = 1 ∨ i = 2 := by omega
theorem tot_up {i d : Nat} {t : Hp} (hi : i < 3) (h : (s 0).m + (s 1).m + (s 2).m ≤ N) (e : t.m ≤ (s i).m + d) : (up s i t 0).m + (up s i t 1).m + (up s i t 2).m ≤ N + d := by
  rcases three hi with rfl | rfl | rfl <;> simp [up] <;> omega
/-- A heap is changed. -/
theorem Pl.heap {i d : Nat} {v' : Value} {t : Hp} {lt nt : Int} (h : Pl B w A N Q V s r l n) (hi : i < 3) (h2 : HeapV B w' (A i) v' t lt nt) (g2 : Good t lt nt) (gr : GrowV w (A i) (V i) v') (tu : Tur (FootV (A i) (V i)) w w') (hd : t.m ≤ (s i).m + d) :
    Pl B w' A (N + d) Q (up V i v') (up s i t) r (up l i lt) (up n i nt) ∧ Kp Q w w' := by
  refine h.step (C := fun j => j = i) (g := i) tu (fun k hk => ⟨i, by omega, rfl, hk⟩) (fun j _ c => up_ne _ _ c) (fun j _ c => ⟨up_ne _ _ c, up_ne _ _ c, up_ne _ _ c⟩) (fun j hj c => rfl) (fun j hj c => ?_) (fun j hj c => ?_) ?_ (fun j hj hne k hk => ?_) (tot_up hi h.tot hd)
  · subst c
    simp only [up_same]
    exact ⟨h2, g2⟩
  · omega
  · rw [up_same]; exact gr
  · rw [up_ne _ _ hne] at hk; exact hk
/-- A reference is changed. -/
theorem Pl.ref {i : Nat} {v' : Value} {t : Hp} (h : Pl B w A N Q V s r l n) (hi : i < 3) (h2 : RefV B w' (A (i + 3)) v' t) (gr : GrowV w (A (i + 3)) (V (i + 3)) v') (tu : Tur (FootV (A (i + 3)) (V (i + 3))) w w') :
    Pl B w' A N Q (up V (i + 3) v') s (up r i t) l n ∧ Kp Q w w' := by
  refine h.step (C := fun j => j = i + 3) (g := i + 3) tu (fun k hk => ⟨i + 3, by omega, rfl, hk⟩) (fun j _ c => up_ne _ _ c) (fun j _ c => ⟨rfl, rfl, rfl⟩) (fun j hj c => up_ne _ _ (by omega)) (fun j hj c => ?_) (fun j hj c => ?_) ?_ (fun j hj hne k hk => ?_) h.tot
  · omega
  · obtain rfl : j = i := by omega
    simp only [up_same]
    exact h2
  · rw [up_same]; exact gr
  · rw [up_ne _ _ hne] at hk; exact hk
theorem growV_refl (w : World) (H : Nat) (v : Value) : GrowV w H v v := fun _ hk => .inl hk
/-- The heaps and their references hold the same; heap i holds c. -/
def Pn (B : Nat) (w : World) (A : Nat → Nat) (N : Nat) (Q : Nat → Prop) (i c : Nat) : Prop := ∃ V s l n, Pl B w A N Q V s s l n ∧ n i = (c : Int)
def P3 (B : Nat) (w : World) (A : Nat → Nat) (N : Nat) (Q : Nat → Prop) : Prop := ∃ V s l n, Pl B w A N Q V s s l n
theorem Pn.all {i c : Nat} (h : Pn B w A N Q i c) : P3 B w A N Q := by
  obtain ⟨V, s, l, n, h, -⟩ := h
  exact ⟨V, s, l, n, h⟩
theorem P3.of {i : Nat} (hi : i < 3) (h : P3 B w A N Q) : ∃ c, Pn B w A N Q i c := by
  obtain ⟨V, s, l, n, h⟩ := h
  have := (h.hp i hi).2.nn
  exact ⟨(n i).toNat, V, s, l, n, h, by omega⟩
theorem P3.below (h : P3 B w A N Q) (hb : Below w.heap.size w w') : P3 B w' A N (Qx Q w.heap.size w'.heap.size) := by
  obtain ⟨V, s, l, n, h⟩ := h
  exact ⟨V, s, l, n, h.below hb⟩
theorem P3.less {Q' : Nat → Prop} (h : P3 B w A N Q) (hq : ∀ k, Q' k → Q k) : P3 B w A N Q' := by
  obtain ⟨V, s, l, n, h⟩ := h
  exact ⟨V, s, l, n, h.less hq⟩
theorem Pn.below {i c : Nat} (h : Pn B w A N Q i c) (hb : Below w.heap.size w w') : Pn B w' A N (Qx Q w.heap.size w'.heap.size) i c := by
  obtain ⟨V, s, l, n, h, e⟩ := h
  exact ⟨V, s, l, n, h.below hb, e⟩
theorem Pn.less {i c : Nat} {Q' : Nat → Prop} (h : Pn B w A N Q i c) (hq : ∀ k, Q' k → Q k) : Pn B w A N Q' i c := by
  obtain ⟨V, s, l, n, h, e⟩ := h
  exact ⟨V, s, l, n, h.less hq, e⟩
theorem Kp.of_below (hb : Below w.heap.size w w') : Kp Q w w' := Tur.of_below hb
theorem Kp.trans {w2 : World} (h : Kp Q w w2) (k : Kp Q w2 w') : Kp Q w w' := Tur.then h k
theorem Kp.lessT {Q' : Nat → Prop} (h : Kp Q w w') (hq : ∀ k, Q' k → Q k) : Kp Q' w w' := Tur.mono h fun k hk => .inl fun q => hk (hq k q)
theorem Kp.at (h : Kp Q w w') {k : Nat} (hk : k < w.heap.size) (hq : Q k) : w'.heap[k]? = w.heap[k]? := Tur.kept h k hk (fun q => q hq)
theorem qx_le {a b : Nat} : ∀ k, Q k → Qx Q a b k := fun _ h => .inl h
end Go.Proofs.Ythdbiablpkeagaa
