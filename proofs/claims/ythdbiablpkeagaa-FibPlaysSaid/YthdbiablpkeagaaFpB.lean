/- FibPlays: each call on a heap and on its reference answers alike. -/
import Derived.Test.YthdbiablpkeagaaFpA
namespace Go.Proofs.Ythdbiablpkeagaa
open Go.RowKit
variable {B N : Nat} {A : Nat → Nat} {Q : Nat → Prop} {w w' : World} {V V' : Nat → Value} {s s' r r' : Nat → Hp} {l l' n n' : Nat → Int}
/-- The program's call answers a, and behind it the reference's answers it too; then F. -/
def Both (Q : Nat → Prop) (f : FuncId) (x : Array Value) (g : FuncId) (y : Array Value) (w : World) (a : Value) (F : (Nat → Prop) → World → Prop) : Prop :=
  Calls Try.prog f x w fun e w1 => e = .returned a ∧ Kp Q w w1 ∧ w.heap.size ≤ w1.heap.size ∧ ∀ w2, Below w1.heap.size w1 w2 → Calls Try.prog g y w2 fun e w3 => e = .returned a ∧ Kp (Qx Q w1.heap.size w2.heap.size) w2 w3 ∧ w2.heap.size ≤ w3.heap.size ∧ F (Qx Q w1.heap.size w2.heap.size) w3
theorem Pl.to3 (h : Pl B w A N Q V s r l n) (e : ∀ i, i < 3 → SameK (r i) (s i)) : P3 B w A N Q := ⟨V, s, l, n, h.same e⟩
theorem SameK.symm {a b : Hp} (h : SameK a b) : SameK b a := ⟨h.1.symm, h.2.1.symm, h.2.2.symm⟩
theorem same_up {s : Nat → Hp} {i : Nat} {a b : Hp} (h : SameK a b) : ∀ j, j < 3 → SameK (up s i a j) (up s i b j) := fun j _ => by
  by_cases e : j = i
  · subst e; rw [up_same, up_same]; exact h
  · rw [up_ne _ _ e, up_ne _ _ e]; exact SameK.refl _
theorem has_nat {s : Hp} {x : Int} (h : s.has x) : ∃ y : Nat, x = (y : Int) ∧ y < s.m ∧ s.th y = true := by
  obtain ⟨h1, h2, h3⟩ := h
  exact ⟨x.toNat, by omega, by omega, h3⟩
theorem none_has {s : Hp} (h : ∀ z, s.th z = false) (x : Int) : ¬ s.has x := fun q => by
  obtain ⟨y, -, -, t⟩ := has_nat q
  rw [h y] at t; cases t
/-- Both are left as they were. -/
theorem both_still {f g : FuncId} {x y : Array Value} {a : Value} (h : P3 B w A N Q) (c1 : Calls Try.prog f x w fun e w1 => e = .returned a ∧ Below w.heap.size w w1) (c2 : ∀ W, Below w.heap.size w W → Calls Try.prog g y W fun e w1 => e = .returned a ∧ Below W.heap.size W w1) : Both Q f x g y w a fun q w3 => P3 B w3 A N q := by
  refine c1.mono ?_
  rintro e w1 ⟨rfl, b1⟩
  refine ⟨rfl, Kp.of_below b1, b1.size, fun w2 b2 => (c2 w2 (b1.trans (b2.mono b1.size))).mono ?_⟩
  rintro e w3 ⟨rfl, b3⟩
  refine ⟨rfl, Kp.of_below b3, b3.size, ?_⟩
  have h1 := (h.below (b1.trans ((b2.trans (b3.mono b2.size)).mono b1.size)))
  refine h1.less fun k hk => ?_
  rcases hk with q | q
  · exact .inl q
  · exact .inr ⟨Nat.le_trans b1.size q.1, Nat.lt_of_lt_of_le q.2 b3.size⟩
theorem pn_still {i c : Nat} {f g : FuncId} {x y : Array Value} {a : Value} (h : Pn B w A N Q i c) (c1 : Calls Try.prog f x w fun e w1 => e = .returned a ∧ Below w.heap.size w w1) (c2 : ∀ W, Below w.heap.size w W → Calls Try.prog g y W fun e w1 => e = .returned a ∧ Below W.heap.size W w1) : Both Q f x g y w a fun q w3 => Pn B w3 A N q i c := by
  refine c1.mono ?_
  rintro e w1 ⟨rfl, b1⟩
  refine ⟨rfl, Kp.of_below b1, b1.size, fun w2 b2 => (c2 w2 (b1.trans (b2.mono b1.size))).mono ?_⟩
  rintro e w3 ⟨rfl, b3⟩
  refine ⟨rfl, Kp.of_below b3, b3.size, ?_⟩
  have h1 := (h.below (b1.trans ((b2.trans (b3.mono b2.size)).mono b1.size)))
  refine h1.less fun k hk => ?_
  rcases hk with q | q
  · exact .inl q
  · exact .inr ⟨Nat.le_trans b1.size q.1, Nat.lt_of_lt_of_le q.2 b3.size⟩
/-- Heap i is changed to t, then its reference to u, which holds the same. -/
theorem both_change {i d : Nat} {f g : FuncId} {x y : Array Value} {a : Value} {F : (Nat → Prop) → World → Prop} (h : Pl B w A N Q V s s l n) (hi : i < 3)
    (c1 : Calls Try.prog f x w fun e w1 => e = .returned a ∧ ∃ v' t lt nt, HeapV B w1 (A i) v' t lt nt ∧ Good t lt nt ∧ GrowV w (A i) (V i) v' ∧ Tur (FootV (A i) (V i)) w w1 ∧ t.m ≤ (s i).m + d ∧
      ∀ W, RefV B W (A (i + 3)) (V (i + 3)) (s i) → Calls Try.prog g y W fun e w3 => e = .returned a ∧ ∃ u' u, RefV B w3 (A (i + 3)) u' u ∧ GrowV W (A (i + 3)) (V (i + 3)) u' ∧ Tur (FootV (A (i + 3)) (V (i + 3))) W w3 ∧ SameK u t ∧
        ∀ q w4 V', Pl B w4 A (N + d) q V' (up s i t) (up s i t) (up l i lt) (up n i nt) → F q w4) : Both Q f x g y w a F := by
  refine c1.mono ?_
  rintro e w1 ⟨rfl, v', t, lt, nt, h2, g2, gr, tu, hd, c2⟩
  obtain ⟨p1, k1⟩ := h.heap hi h2 g2 gr tu hd
  refine ⟨rfl, k1, tu.size, fun w2 b2 => ?_⟩
  have p2 := p1.below b2
  have hV3 : up V i v' (i + 3) = V (i + 3) := up_ne _ _ (by omega)
  have hr2 := p2.rf i hi
  rw [hV3] at hr2
  refine (c2 w2 hr2).mono ?_
  rintro e w3 ⟨rfl, u', u, r3, gr3, tu3, sk, hF⟩
  have p3 := p2.ref (t := u) hi (by exact r3) (by rw [hV3]; exact gr3) (by rw [hV3]; exact tu3)
  exact ⟨rfl, p3.2, tu3.size, hF _ _ _ (p3.1.same (same_up sk))⟩
theorem comp_pos {k l : K3} (hk : okK k) (hl : okK l) : 0 < compI k l ↔ gtK k l := by
  have e : cmpR k.1 k.2.1 l.1 l.2.1 = (cmpZ (k.1 * l.2.1) (l.1 * k.2.1), 0) := by
    unfold cmpR
    rw [if_neg (by have := hk.2; have := hl.2; omega)]
  unfold compI gtK
  rw [e]
  unfold cmpZ
  simp only
  repeat' split
  all_goals omega
abbrev pA (A : Nat → Nat) (i : Nat) : Value := .pointer (some ⟨A i, 0, none⟩)
abbrev kA (k : K3) : Value := .agg #[.int .u64 k.1, .int .u64 k.2.1, .int .i64 k.2.2]
theorem okK.of {k : K3} (h : okW k) (h0 : ¬ k.2.1 = 0) : okK k := ⟨⟨h.1, h.2.1, h.2.2.2⟩, by have := h.2.2.1; omega⟩
theorem P3.insert {i : Nat} (h : P3 B w A N Q) (hi : i < 3) (hN : N < 1048576) (k : K3) (hk : okW k) :
    ∃ x e : Int, Both Q 10 #[pA A i, kA k] 33 #[pA A (i + 3), kA k] w (.tuple #[.int .i64 x, .int .i64 e]) fun q w3 => P3 B w3 A (N + 1) q := by
  obtain ⟨V, s, l, n, h⟩ := h
  by_cases h0 : k.2.1 = 0
  · refine ⟨0, 4, ?_⟩
    obtain ⟨k0, k1, k2⟩ := k
    simp only at h0
    subst h0
    have := both_still (a := .tuple #[.int .i64 0, .int .i64 4]) ⟨V, s, l, n, h⟩ (insert_form (h.hp i hi).1 k0 k2) (fun W hb => rinsert_form ((h.rf i hi).below hb) k0 k2)
    refine this.mono ?_
    rintro e w1 ⟨e1, e2, e3, hh⟩
    refine ⟨e1, e2, e3, fun w2 b2 => (hh w2 b2).mono ?_⟩
    rintro e w3 ⟨f1, f2, f3, V, s, l, n, f4⟩
    exact ⟨f1, f2, f3, V, s, l, n, f4.hp, f4.rf, f4.ap, Nat.le_succ_of_le f4.tot, f4.ql, f4.qf⟩
  · have hm : (s i).m < 1048576 := by have := h.tot; rcases three hi with rfl | rfl | rfl <;> omega
    refine ⟨(s i).m, 0, both_change (d := 1) h hi ((insert_ok k (h.hp i hi).1 (h.hp i hi).2 (hk := okK.of hk h0) hm).mono ?_)⟩
    rintro e w1 ⟨rfl, v', t, lt, h2, g2, sk, gr, tu⟩
    refine ⟨rfl, v', t, lt, _, h2, g2, gr, tu, by rw [sk.1]; exact Nat.le_refl _, fun W hW => (rinsert_ok k hW h0 hm).mono ?_⟩
    rintro e w3 ⟨rfl, u', r3, gr3, tu3⟩
    exact ⟨rfl, u', _, r3, gr3, tu3, sk, fun q w4 V' hp => ⟨V', _, _, _, hp⟩⟩
theorem P3.min {i : Nat} (h : P3 B w A N Q) (hi : i < 3) :
    ∃ (x : Int) (k : K3) (e : Int), Both Q 18 #[pA A i] 34 #[pA A (i + 3)] w (.tuple #[.int .i64 x, kA k, .int .i64 e]) fun q w3 => P3 B w3 A N q := by
  have h3 := h
  obtain ⟨V, s, l, n, h⟩ := h
  obtain ⟨hH, hG⟩ := h.hp i hi
  rcases hG.min with ⟨-, hn, hno⟩ | ⟨x, hl, hx, tx, hn, hmin⟩
  · exact ⟨0, (0, 0, 0), 3, both_still h3 (min_none hH hn) (fun W hb => rmin_none ((h.rf i hi).below hb) hG.1 hno)⟩
  · obtain ⟨g, cap, e, hHG⟩ := hH.open_ (by omega)
    exact ⟨x, (s i).key x, 0, both_still h3 (min_some hHG hl hx hG.1 hn) (fun W hb => rmin_some ((h.rf i hi).below hb) hG.1 (fun z hz => (hG.ok hz).1) hx tx hmin)⟩
theorem pop_nothing {v : Value} {H : Nat} {t : Hp} {lt : Int} (h : HeapV B w H v t lt 0) : Calls Try.prog 11 #[.pointer (some ⟨H, 0, none⟩)] w fun e w' => e = .returned (.tuple #[.int .i64 0, keyV (0, 0, 0), .int .i64 3]) ∧ Below w.heap.size w w' := pop_none h rfl
theorem Pn.pop {i c : Nat} (h : Pn B w A N Q i c) (hi : i < 3) :
    ∃ (x : Int) (k : K3) (e : Int) (c' : Nat), ((e = 0 ∧ c = c' + 1) ∨ (e = 3 ∧ c = 0 ∧ c' = 0)) ∧ Both Q 11 #[pA A i] 35 #[pA A (i + 3)] w (.tuple #[.int .i64 x, kA k, .int .i64 e]) fun q w3 => Pn B w3 A N q i c' := by
  have h3 := h
  obtain ⟨V, s, l, n, h, hc⟩ := h
  obtain ⟨hH, hG⟩ := h.hp i hi
  rcases hG.min with ⟨-, hn, hno⟩ | ⟨x, hl, hx, tx, hn, hmin⟩
  · refine ⟨0, (0, 0, 0), 3, c, .inr ⟨rfl, by omega, by omega⟩, pn_still h3 (by rw [hn] at hH; exact pop_nothing hH) (fun W hb => rpop_none ((h.rf i hi).below hb) hG.1 hno)⟩
  · refine ⟨x, (s i).key x, 0, c - 1, .inl ⟨rfl, by omega⟩, both_change (d := 0) h hi ?_⟩
    obtain ⟨y, ty, hy, -, hyl, hp⟩ := pop_v hH hG hn
    have exy : y = x := by
      rcases hmin y ty with q | q
      · exact q
      · rcases hyl x tx with q2 | q2
        · exact q2.symm
        · exact absurd q2 (ltk_asy q)
    subst exy
    refine (hp w (Below.refl _ _)).mono ?_
    rintro e w1 ⟨rfl, t, lt, h2, g2, sk, tu⟩
    refine ⟨rfl, _, t, lt, _, h2, g2, growV_refl _ _ _, tu, by rw [sk.1]; exact Nat.le_refl _, fun W hW => (rpop_some hW hG.1 (fun z hz => (hG.ok hz).1) hx tx hmin).mono ?_⟩
    rintro e w3 ⟨rfl, r3, tu3⟩
    exact ⟨rfl, _, _, r3, growV_refl _ _ _, tu3, sk, fun q w4 V' hp => ⟨V', _, _, _, hp, by rw [up_same]; omega⟩⟩
theorem P3.pop {i : Nat} (h : P3 B w A N Q) (hi : i < 3) :
    ∃ (x : Int) (k : K3) (e : Int), Both Q 11 #[pA A i] 35 #[pA A (i + 3)] w (.tuple #[.int .i64 x, kA k, .int .i64 e]) fun q w3 => P3 B w3 A N q := by
  obtain ⟨c, hc⟩ := h.of hi
  obtain ⟨x, k, e, c', -, hb⟩ := hc.pop hi
  refine ⟨x, k, e, hb.mono ?_⟩
  rintro e w1 ⟨e1, e2, e3, hh⟩
  refine ⟨e1, e2, e3, fun w2 b2 => (hh w2 b2).mono ?_⟩
  rintro e w3 ⟨f1, f2, f3, f4⟩
  exact ⟨f1, f2, f3, f4.all⟩
theorem P3.get {i : Nat} (h : P3 B w A N Q) (hi : i < 3) (x : Int) :
    ∃ (k : K3) (e : Int), Both Q 16 #[pA A i, .int .i64 x] 38 #[pA A (i + 3), .int .i64 x] w (.tuple #[kA k, .int .i64 e]) fun q w3 => P3 B w3 A N q := by
  have h3 := h
  obtain ⟨V, s, l, n, h⟩ := h
  obtain ⟨hH, hG⟩ := h.hp i hi
  by_cases hx : (s i).has x
  · obtain ⟨y, rfl, hy, ty⟩ := has_nat hx
    exact ⟨(s i).key y, 0, both_still h3 (get_v hH hG ty) (fun W hb => rget_yes ((h.rf i hi).below hb) hy ty)⟩
  · exact ⟨(0, 0, 0), 3, both_still h3 (get_no x hH hx) (fun W hb => rget_no x ((h.rf i hi).below hb) hx)⟩
theorem P3.delete {i : Nat} (h : P3 B w A N Q) (hi : i < 3) (x : Int) :
    ∃ e : Int, Both Q 22 #[pA A i, .int .i64 x] 37 #[pA A (i + 3), .int .i64 x] w (.int .i64 e) fun q w3 => P3 B w3 A N q := by
  have h3 := h
  obtain ⟨V, s, l, n, h⟩ := h
  obtain ⟨hH, hG⟩ := h.hp i hi
  by_cases hx : (s i).has x
  · obtain ⟨y, rfl, hy, ty⟩ := has_nat hx
    refine ⟨0, both_change (d := 0) h hi ?_⟩
    obtain ⟨g, cap, e, hHG⟩ := hH.open_ (by omega)
    refine (delete_yes y hHG hG ty hy).mono ?_
    rintro e' w1 ⟨rfl, t, lt, h2, g2, sk, tu⟩
    refine ⟨rfl, _, t, lt, _, h2.toV, g2, ?_, ?_, by rw [sk.1]; exact Nat.le_refl _, fun W hW => (rdelete_yes y hW hy ty).mono ?_⟩
    · rw [e]
      intro k hk
      exact .inl (foot_gv.1 (foot_gv.2 hk))
    · rw [e]; exact tu.gv
    · rintro e w3 ⟨rfl, r3, tu3⟩
      exact ⟨rfl, _, _, r3, growV_refl _ _ _, tu3, sk, fun q w4 V' hp => ⟨V', _, _, _, hp⟩⟩
  · exact ⟨3, both_still h3 (delete_no x hH hx) (fun W hb => rdelete_no x ((h.rf i hi).below hb) hx)⟩
theorem P3.decrease {i : Nat} (h : P3 B w A N Q) (hi : i < 3) (x : Int) (k : K3) (hk : okW k) :
    ∃ e : Int, Both Q 17 #[pA A i, .int .i64 x, kA k] 36 #[pA A (i + 3), .int .i64 x, kA k] w (.int .i64 e) fun q w3 => P3 B w3 A N q := by
  have h3 := h
  obtain ⟨V, s, l, n, h⟩ := h
  obtain ⟨hH, hG⟩ := h.hp i hi
  by_cases hx : (s i).has x
  · have hx0 := hx
    obtain ⟨y, rfl, hy, ty⟩ := has_nat hx
    by_cases h0 : k.2.1 = 0
    · obtain ⟨k0, k1, k2⟩ := k
      simp only at h0
      subst h0
      exact ⟨4, both_still h3 (decrease_form y k0 k2 hH hx0) (fun W hb => rdec_form y k0 k2 ((h.rf i hi).below hb) hy ty)⟩
    · have ok := okK.of hk h0
      have oy := (hG.ok ty).1
      by_cases hc : 0 < compI k ((s i).key y)
      · obtain ⟨g, cap, e, hHG⟩ := hH.open_ (by omega)
        exact ⟨2, both_still h3 (decrease_range y k hHG ty hy ok ((comp_pos ok oy).1 hc) oy) (fun W hb => rdec_range y k ((h.rf i hi).below hb) hy ty ok oy hc)⟩
      · refine ⟨0, both_change (d := 0) h hi ((dec_v hH hG k ty ok (fun q => hc ((comp_pos ok oy).2 q))).mono ?_)⟩
        rintro e w1 ⟨rfl, t, lt, h2, g2, sk, tu⟩
        refine ⟨rfl, _, t, lt, _, h2, g2, growV_refl _ _ _, tu, by rw [sk.1]; exact Nat.le_refl _, fun W hW => (rdec_ok y k hW hy ty ok oy hc).mono ?_⟩
        rintro e w3 ⟨rfl, r3, tu3⟩
        exact ⟨rfl, _, _, r3, growV_refl _ _ _, tu3, sk, fun q w4 V' hp => ⟨V', _, _, _, hp⟩⟩
  · exact ⟨3, both_still h3 (decrease_no x k hH hx) (fun W hb => rdec_no x k ((h.rf i hi).below hb) hx)⟩
theorem P3.len {i : Nat} (h : P3 B w A N Q) (hi : i < 3) : ∃ c : Int, (∀ W, Below w.heap.size w W → Calls Try.prog 14 #[pA A i] W fun e w' => e = .returned (.int .i64 c) ∧ W = w') ∧ ∀ W, Below w.heap.size w W → Calls Try.prog 20 #[pA A (i + 3)] W fun e w' => e = .returned (.int .i64 c) ∧ W = w' := by
  obtain ⟨V, s, l, n, h⟩ := h
  obtain ⟨hH, hG⟩ := h.hp i hi
  refine ⟨n i, fun W hb => len_g (hH.below hb), fun W hb => ?_⟩
  have e : n i = (cnt (s i) (s i).m : Int) := hG.2.1
  rw [e]
  exact rlen_g ((h.rf i hi).below hb) hG.1
end Go.Proofs.Ythdbiablpkeagaa
