/- FibPlays: Meld on both sides. -/
import Derived.Test.YthdbiablpkeagaaFpB
namespace Go.Proofs.Ythdbiablpkeagaa
open Go.RowKit
variable {B N : Nat} {A : Nat → Nat} {Q : Nat → Prop} {w w' : World} {V V' : Nat → Value} {s s' r r' : Nat → Hp} {l l' n n' : Nat → Int}
set_option maxRecDepth 20000 in
theorem meld_self (a : Addr) (w : World) : Calls Try.prog 15 #[.pointer (some a), .pointer (some a)] w fun e w' => e = .returned (.tuple #[.int .i64 0, .int .i64 10]) ∧ Below w.heap.size w w' := by
  have hptr : (binOp .eql 24 (.pointer (some a)) (.pointer (some a))).run Try.prog w = .ok (.bool true) w := by
    obtain ⟨j, hj, hjs⟩ := infoHp
    exact run_eql_ptr_same w a Try.underlying24 hj
  go_enter Try.func15, Try.ntmps15
  go_wp2
  go_ret2
  exact ⟨rfl, (by repeat (first | with_reducible assumption | with_reducible exact Below.refl _ _ | with_reducible refine Below.drew ?_ | with_reducible refine below_drewN ?_ _ | with_reducible refine below_alloc ?_ _ | with_reducible refine Below.alloc ?_ (by first | omega | (simp; done) | (simp; omega)) _ | with_reducible refine Below.setCell ?_ (by first | omega | (simp; done) | (simp; omega)) _ | with_reducible refine below_setRow ?_ (by first | omega | (simp; done) | (simp; omega)) _))⟩
/-- Two objects at once: i takes what j held. -/
theorem Pl.heaps {i j : Nat} {v' : Value} {t : Hp} {lt nt : Int} (h : Pl B w A N Q V s r l n) (hi : i < 3) (hj : j < 3) (hij : i ≠ j) (h2 : HeapV B w' (A i) v' t lt nt) (g2 : Good t lt nt) (h3 : HeapV B w' (A j) (.slice none 0 0) hp0 0 0) (gr : GrowV w (A i) (V i) v') (tu : Tur (fun k => FootV (A i) (V i) k ∨ k = A j) w w') (hd : t.m = (s i).m + (s j).m) :
    Pl B w' A N Q (up (up V i v') j (.slice none 0 0)) (up (up s i t) j hp0) r (up (up l i lt) j 0) (up (up n i nt) j 0) ∧ Kp Q w w' := by
  refine h.step (C := fun k => k = i ∨ k = j) (g := i) tu (fun k hk => ?_) (fun k _ c => ?_) (fun k _ c => ?_) (fun k hk c => rfl) (fun k hk c => ?_) (fun k hk c => ?_) ?_ (fun k hk hne z hz => ?_) ?_
  · rcases hk with q | q
    · exact ⟨i, by omega, .inl rfl, q⟩
    · exact ⟨j, by omega, .inr rfl, .inl q⟩
  · rw [up_ne _ _ (fun e => c (.inr e)), up_ne _ _ (fun e => c (.inl e))]
  · simp only [up_ne _ _ (fun e => c (.inr e)), up_ne _ _ (fun e => c (.inl e)), and_self]
  · by_cases e : k = j
    · subst e
      simp only [up_same]
      exact ⟨h3, good0⟩
    · rcases c with c | c
      · subst c
        simp only [up_ne _ _ e, up_same]
        exact ⟨h2, g2⟩
      · exact absurd c e
  · omega
  · rw [up_ne _ _ hij, up_same]; exact gr
  · by_cases e : k = j
    · subst e
      rw [up_same] at hz
      rcases hz with q | q
      · exact .inl q
      · cases q
    · rw [up_ne _ _ e, up_ne _ _ hne] at hz
      exact hz
  · have := h.tot
    have h0 : hp0.m = 0 := rfl
    rcases three hi with rfl | rfl | rfl <;> rcases three hj with rfl | rfl | rfl <;> first | (exact absurd rfl hij) | (simp [up, h0, hd]; omega)
theorem Pl.refs {i j : Nat} {v' : Value} {t : Hp} (h : Pl B w A N Q V s r l n) (hi : i < 3) (hj : j < 3) (hij : i ≠ j) (h2 : RefV B w' (A (i + 3)) v' t) (h3 : RefV B w' (A (j + 3)) (.slice none 0 0) hp0) (gr : GrowV w (A (i + 3)) (V (i + 3)) v') (tu : Tur (fun k => FootV (A (i + 3)) (V (i + 3)) k ∨ k = A (j + 3)) w w') :
    Pl B w' A N Q (up (up V (i + 3) v') (j + 3) (.slice none 0 0)) s (up (up r i t) j hp0) l n ∧ Kp Q w w' := by
  refine h.step (C := fun k => k = i + 3 ∨ k = j + 3) (g := i + 3) tu (fun k hk => ?_) (fun k _ c => ?_) (fun k _ c => ⟨rfl, rfl, rfl⟩) (fun k hk c => ?_) (fun k hk c => ?_) (fun k hk c => ?_) ?_ (fun k hk hne z hz => ?_) h.tot
  · rcases hk with q | q
    · exact ⟨i + 3, by omega, .inl rfl, q⟩
    · exact ⟨j + 3, by omega, .inr rfl, .inl q⟩
  · rw [up_ne _ _ (fun e => c (.inr e)), up_ne _ _ (fun e => c (.inl e))]
  · rw [up_ne _ _ (by omega), up_ne _ _ (by omega)]
  · omega
  · by_cases e : k = j
    · subst e
      simp only [up_same]
      exact h3
    · have e2 : k = i := by omega
      subst e2
      simp only [up_ne _ _ e, up_same]
      rw [up_ne _ _ (by omega), up_same]
      exact h2
  · rw [up_ne _ _ (by omega), up_same]; exact gr
  · by_cases e : k = j + 3
    · subst e
      rw [up_same] at hz
      rcases hz with q | q
      · exact .inl q
      · cases q
    · rw [up_ne _ _ e, up_ne _ _ hne] at hz
      exact hz
theorem P3.meld {i j : Nat} (h : P3 B w A N Q) (hi : i < 3) (hj : j < 3) (hij : i ≠ j) (hN : N < 1048576) :
    ∃ x e : Int, Both Q 15 #[pA A i, pA A j] 39 #[pA A (i + 3), pA A (j + 3)] w (.tuple #[.int .i64 x, .int .i64 e]) fun q w3 => P3 B w3 A N q := by
  obtain ⟨V, s, l, n, h⟩ := h
  have hm : (s i).m + (s j).m ≤ 1048576 := by
    have := h.tot
    rcases three hi with rfl | rfl | rfl <;> rcases three hj with rfl | rfl | rfl <;> first | (exact absurd rfl hij) | omega
  have hAne : A i ≠ A j := fun e => h.ap i j (by omega) (by omega) hij (A i) (.inl rfl) (.inl e)
  refine ⟨(s i).m, 0, (meld_ok (h.hp i hi).1 (h.hp j hj).1 (h.hp i hi).2 (h.hp j hj).2 hm hAne (fun k h1 h2 => h.ap i j (by omega) (by omega) hij k h2 h1)).mono ?_⟩
  rintro e w1 ⟨rfl, v', h2, g2, h3, gr, tu⟩
  obtain ⟨e1, e2, e3⟩ := catS_same (s i) (l i) (s j) (l j)
  obtain ⟨p1, k1⟩ := h.heaps hi hj hij h2 g2 h3 gr tu e1
  refine ⟨rfl, k1, tu.size, fun w2 b2 => ?_⟩
  have p2 := p1.below b2
  have vi : up (up V i v') j (.slice none 0 0) (i + 3) = V (i + 3) := by rw [up_ne _ _ (by omega), up_ne _ _ (by omega)]
  have vj : up (up V i v') j (.slice none 0 0) (j + 3) = V (j + 3) := by rw [up_ne _ _ (by omega), up_ne _ _ (by omega)]
  have ri := p2.rf i hi
  have rj := p2.rf j hj
  have api := p2.ap (i + 3) (j + 3) (by omega) (by omega) (by omega)
  rw [vi] at ri
  rw [vj] at rj
  rw [vi, vj] at api
  have hAne3 : A (i + 3) ≠ A (j + 3) := fun e => api (A (i + 3)) (.inl rfl) (.inl e)
  refine (rmeld_ok ri rj hm hAne3 (fun k h1 h2 => api k h2 h1)).mono ?_
  rintro e w3 ⟨rfl, u', r3, re, gr3, tu3⟩
  have p3 := p2.refs (t := (s i).cat (s j)) hi hj hij r3 re (by rw [vi]; exact gr3) (by rw [vi]; exact tu3)
  refine ⟨rfl, p3.2, tu3.size, p3.1.to3 fun k hk => ?_⟩
  by_cases q : k = j
  · subst q
    rw [up_same, up_same]; exact SameK.refl _
  · rw [up_ne _ _ q, up_ne _ _ q]
    by_cases q2 : k = i
    · subst q2
      rw [up_same, up_same]; exact ⟨e1, e2, e3⟩
    · rw [up_ne _ _ q2, up_ne _ _ q2]; exact SameK.refl _
end Go.Proofs.Ythdbiablpkeagaa
