/- The interval heap, plain: the way down, and the two great laws: what is put in, and what is taken out, leaves a heap. -/
import Derived.Test.YtingeijodooocaaMmM
namespace Go.Proofs.Ytingeijodooocaa
section
variable {L : Nat → Nat → Prop} {n : Nat} {e e' e2 : Nat → Nat} {i j p pl pu a b : Nat}
/-- One step down among the lower ends. -/
theorem IvE.downL (h : IvE L n e a pu) (s : Sto L) (hpu : n ≤ pu) (hb : b = 4 * a + 2 ∨ b = 4 * a + 4) (hbn : b < n) (hlt : L (e b) (e (2 * a)))
    (hoth : ∀ c, (c = 4 * a + 2 ∨ c = 4 * a + 4) → c < n → c ≠ b → L (e b) (e c))
    (h1 : e2 (2 * a) = e b) (ho : ∀ k, k ≠ 2 * a → k ≠ b → k ≠ b + 1 → e2 k = e k)
    (h2 : e2 b = e (2 * a) ∨ (b + 1 < n ∧ e2 b = e (b + 1)))
    (h3 : b + 1 < n → L (e2 b) (e2 (b + 1)) ∧ (e2 (b + 1) = e (b + 1) ∨ (L (e (b + 1)) (e2 (b + 1)) ∧ e2 (b + 1) = e (2 * a)))) :
    IvE L n e2 (b / 2) pu := by
  have hlow : ∀ k, lowp k % 2 = 0 := lowp_even
  have hbb : lowp b = 2 * a ∧ lowp (b + 1) = 2 * a := by unfold lowp; omega
  have pa := h.pr a (by omega)
  have hpb : ∀ c, (c = 4 * a + 2 ∨ c = 4 * a + 4) → c + 1 < n → L (e c) (e (c + 1)) := fun c hc hcn => by
    have := h.pr (c / 2) (by omega)
    rw [show 2 * (c / 2) = c by omega] at this
    exact this
  have hhi : ∀ c, 4 * a + 2 ≤ c → c < 4 * a + 6 → c < n → L (e c) (e (2 * a + 1)) := fun c c1 c2 c3 => by
    have := h.hi c (by omega) c3 (by omega)
    unfold HiAt at this
    rw [show lowp c = 2 * a by unfold lowp; omega] at this
    exact this
  -- those that come into the pair of b
  have hA : ∀ k, (k = b ∨ k = b + 1) → k < n → L (e b) (e2 k) ∧ L (e2 k) (e (2 * a + 1)) := by
    intro k hk hkn
    rcases hk with q | q <;> subst q
    · rcases h2 with q | ⟨q0, q⟩ <;> rw [q]
      · exact ⟨hlt, pa⟩
      · exact ⟨hpb k hb q0, hhi (k + 1) (by omega) (by omega) q0⟩
    · rcases (h3 hkn).2 with q | ⟨_, q⟩ <;> rw [q]
      · exact ⟨hpb b hb hkn, hhi (b + 1) (by omega) (by omega) hkn⟩
      · exact ⟨hlt, pa⟩
  have ho1 : e2 (2 * a + 1) = e (2 * a + 1) := ho _ (by omega) (by omega) (by omega)
  refine ⟨fun c hc => ?_, fun j hj hjn hjp => ?_, fun j hj hjn hjp => ?_, fun hp1 j hj hjn hjp => ?_, fun hp1 j hj hjn hjp => by omega⟩
  · by_cases q : c = a
    · subst q
      rw [h1, ho1]; exact hhi b (by omega) (by omega) hbn
    · by_cases q2 : 2 * c = b
      · rw [q2] at hc ⊢; exact (h3 hc).1
      · rw [ho (2 * c) (by omega) q2 (by omega), ho (2 * c + 1) (by omega) (by omega) (by omega)]
        exact h.pr c hc
  · unfold LoAt
    have hl := lowp_lt hj
    have hp := lowp_half j
    have hp2 := hlow j
    by_cases q1 : j = 2 * a
    · have hla : lowp j ≠ 2 * a ∧ lowp j ≠ b ∧ lowp j ≠ b + 1 := by omega
      rw [ho _ hla.1 hla.2.1 hla.2.2, q1, h1]
      exact h.bl (by omega) b (by omega) hbn (by omega)
    · by_cases q2 : j = b ∨ j = b + 1
      · rw [show lowp j = 2 * a by rcases q2 with q | q <;> subst q; exact hbb.1; exact hbb.2, h1]
        exact (hA j q2 hjn).1
      · by_cases q3 : lowp j = 2 * a
        · rw [q3, h1, ho j q1 (by omega) (by omega)]
          by_cases q4 : j % 2 = 0
          · exact hoth j (by omega) hjn (by omega)
          · have g1 := hoth (j - 1) (by omega) (by omega) (by omega)
            have g2 := hpb (j - 1) (by omega) (by omega)
            rw [show j - 1 + 1 = j by omega] at g2
            exact s.tr g1 g2
        · rw [ho _ q3 (by omega) (by omega), ho j q1 (by omega) (by omega)]
          exact h.lo j hj hjn (by omega)
  · unfold HiAt
    have hl := lowp_lt hj
    have hp := lowp_half j
    have hp2 := hlow j
    by_cases q1 : j = 2 * a
    · rw [ho (lowp j + 1) (by omega) (by omega) (by omega), q1, h1]
      have g := h.hi (2 * a + 1) (by omega) (by omega) (by omega)
      unfold HiAt at g
      rw [show lowp (2 * a + 1) = lowp (2 * a) by unfold lowp; omega] at g
      exact s.tr (hhi b (by omega) (by omega) hbn) g
    · by_cases q2 : j = b ∨ j = b + 1
      · rw [show lowp j = 2 * a by rcases q2 with q | q <;> subst q; exact hbb.1; exact hbb.2, ho1]
        exact (hA j q2 hjn).2
      · rw [ho j q1 (by omega) (by omega)]
        by_cases q3 : lowp j = b
        · have g := h.hi j hj hjn hjp
          unfold HiAt at g
          rw [q3] at g ⊢
          rcases (h3 (by omega)).2 with q | ⟨q, _⟩
          · rw [q]; exact g
          · exact s.tr g q
        · rw [ho _ (by omega) (by omega) (by omega)]
          exact h.hi j hj hjn hjp
  · have hl := lowp_lt hj
    have hp := lowp_half j
    have hp2 := hlow j
    have g := h.lo j hj hjn (by omega)
    unfold LoAt at g
    rw [show lowp j = b by omega] at g
    rw [show lowp (2 * (b / 2)) = 2 * a by unfold lowp; omega, h1, ho j (by omega) (by omega) (by omega)]
    exact g
/-- One step down among the upper ends: of the pair p, the end b comes up. -/
theorem IvE.downH (h : IvE L n e pl a) (s : Sto L) (hpl : n ≤ pl) (hp : p = 2 * a + 1 ∨ p = 2 * a + 2) (hb : b = cand n true p) (hbn : b < n) (hlt : L (e (2 * a + 1)) (e b))
    (hoth : ∀ q, (q = 2 * a + 1 ∨ q = 2 * a + 2) → q ≠ p → cand n true q < n → L (e (cand n true q)) (e b))
    (h1 : e2 (2 * a + 1) = e b) (ho : ∀ k, k ≠ 2 * a + 1 → k ≠ 2 * p → k ≠ 2 * p + 1 → e2 k = e k)
    (h2 : e2 b = e (2 * a + 1) ∨ (2 * p + 1 < n ∧ e2 b = e (2 * p)))
    (h3 : 2 * p + 1 < n → L (e2 (2 * p)) (e2 (2 * p + 1)) ∧ (e2 (2 * p) = e (2 * p) ∨ (L (e2 (2 * p)) (e (2 * p)) ∧ e2 (2 * p) = e (2 * a + 1)))) :
    IvE L n e2 pl p := by
  have hlow : ∀ k, lowp k % 2 = 0 := lowp_even
  have hb' : (2 * p + 1 < n ∧ b = 2 * p + 1) ∨ (n ≤ 2 * p + 1 ∧ b = 2 * p) := by
    rw [hb]; unfold cand
    by_cases q : 2 * p + 1 < n
    · exact .inl ⟨q, if_pos ⟨rfl, q⟩⟩
    · exact .inr ⟨by omega, if_neg (fun x => q x.2)⟩
  have pa := h.pr a (by omega)
  have hlo : ∀ c, 4 * a + 2 ≤ c → c < 4 * a + 6 → c < n → L (e (2 * a)) (e c) := fun c c1 c2 c3 => by
    have := h.lo c (by omega) c3 (by omega)
    unfold LoAt at this
    rw [show lowp c = 2 * a by unfold lowp; omega] at this
    exact this
  -- those that come into the pair p
  have hA : ∀ k, (k = 2 * p ∨ k = 2 * p + 1) → k < n → L (e (2 * a)) (e2 k) ∧ L (e2 k) (e b) := by
    have hv : ∀ v, (v = e (2 * a + 1) ∨ (2 * p + 1 < n ∧ v = e (2 * p))) → L (e (2 * a)) v ∧ L v (e b) := by
      intro v hv
      rcases hv with q | ⟨q0, q⟩ <;> rw [q]
      · exact ⟨pa, hlt⟩
      · refine ⟨hlo (2 * p) (by omega) (by omega) (by omega), ?_⟩
        rw [show b = 2 * p + 1 by omega]; exact h.pr p q0
    intro k hk hkn
    apply hv
    by_cases q : k = b
    · rw [q]; exact h2
    · have : k = 2 * p ∧ 2 * p + 1 < n := by omega
      rw [this.1]
      rcases (h3 this.2).2 with q | ⟨_, q⟩
      · exact .inr ⟨this.2, q⟩
      · exact .inl q
  have ho0 : e2 (2 * a) = e (2 * a) := ho _ (by omega) (by omega) (by omega)
  refine ⟨fun c hc => ?_, fun j hj hjn hjp => ?_, fun j hj hjn hjp => ?_, fun hp1 j hj hjn hjp => by omega, fun hp1 j hj hjn hjp => ?_⟩
  · by_cases q : c = a
    · subst q
      rw [h1, ho0]; exact hlo b (by omega) (by omega) hbn
    · by_cases q2 : c = p
      · rw [q2] at hc ⊢; exact (h3 hc).1
      · rw [ho (2 * c) (by omega) (by omega) (by omega), ho (2 * c + 1) (by omega) (by omega) (by omega)]
        exact h.pr c hc
  · unfold LoAt
    have hl := lowp_lt hj
    have hq := lowp_half j
    have hp2 := hlow j
    by_cases q1 : j = 2 * a + 1
    · rw [ho (lowp j) (by omega) (by omega) (by omega), q1, h1]
      have g := h.lo (2 * a) (by omega) (by omega) (by omega)
      unfold LoAt at g
      rw [show lowp (2 * a + 1) = lowp (2 * a) by unfold lowp; omega]
      exact s.tr g (hlo b (by omega) (by omega) hbn)
    · by_cases q2 : j = 2 * p ∨ j = 2 * p + 1
      · rw [show lowp j = 2 * a by unfold lowp; omega, ho0]
        exact (hA j q2 hjn).1
      · rw [ho j q1 (by omega) (by omega)]
        by_cases q3 : lowp j = 2 * p
        · have g := h.lo j hj hjn (by omega)
          unfold LoAt at g
          rw [q3] at g ⊢
          rcases (h3 (by omega)).2 with q | ⟨q, _⟩
          · rw [q]; exact g
          · exact s.tr q g
        · rw [ho _ (by omega) (by omega) (by omega)]
          exact h.lo j hj hjn hjp
  · unfold HiAt
    have hl := lowp_lt hj
    have hq := lowp_half j
    have hp2 := hlow j
    by_cases q1 : j = 2 * a + 1
    · rw [ho (lowp j + 1) (by omega) (by omega) (by omega), q1, h1]
      have g := h.bu (by omega) b (by omega) hbn (by omega)
      rw [show lowp (2 * a + 1) = lowp (2 * a) by unfold lowp; omega]
      exact g
    · by_cases q2 : j = 2 * p ∨ j = 2 * p + 1
      · rw [show lowp j + 1 = 2 * a + 1 by unfold lowp; omega, h1]
        exact (hA j q2 hjn).2
      · by_cases q3 : lowp j = 2 * a
        · rw [q3, h1, ho j q1 (by omega) (by omega)]
          have g1 := hoth (j / 2) (by omega) (by omega)
          by_cases q4 : 2 * (j / 2) + 1 < n
          · have ec : cand n true (j / 2) = 2 * (j / 2) + 1 := if_pos ⟨rfl, q4⟩
            rw [ec] at g1
            have g2 := g1 q4
            by_cases q5 : j % 2 = 1
            · rw [show 2 * (j / 2) + 1 = j by omega] at g2; exact g2
            · have g3 := h.pr (j / 2) q4
              rw [show 2 * (j / 2) = j by omega] at g3 g2
              exact s.tr g3 g2
          · have ec : cand n true (j / 2) = 2 * (j / 2) := if_neg (fun x => q4 x.2)
            rw [ec] at g1
            have g2 := g1 (by omega)
            rw [show 2 * (j / 2) = j by omega] at g2; exact g2
        · rw [ho (lowp j + 1) (by omega) (by omega) (by omega), ho j q1 (by omega) (by omega)]
          exact h.hi j hj hjn (by omega)
  · have hl := lowp_lt hj
    have hq := lowp_half j
    have hp2 := hlow j
    have g := h.hi j hj hjn (by omega)
    unfold HiAt at g
    rw [show lowp j + 1 = b by omega] at g
    rw [show lowp (2 * p) + 1 = 2 * a + 1 by unfold lowp; omega, h1, ho j (by omega) (by omega) (by omega)]
    exact g
theorem Dns.low (h : Dns L n false e i e') : ∀ {pl : Nat}, Sto L → Inj n e → i < n → i % 2 = 0 → (pl = i / 2 ∨ n ≤ pl) → IvE L n e pl n → Inj n e' ∧ Ivl L n e' := by
  induction h with
  | @stop e i h =>
    intro pl s inj hin hev hpl iv
    refine ⟨inj, iv.pr, fun j hj hjn => ?_, fun j hj hjn => iv.hi j hj hjn (by omega)⟩
    by_cases q : (j / 2 - 1) / 2 = pl
    · have hl := lowp_lt hj
      have hk := h.low_stop s inj hin
      unfold LoAt
      have e1 : lowp j = i := by unfold lowp; omega
      rw [e1]
      by_cases q2 : j % 2 = 0
      · exact hk j (by omega) hjn
      · have g := iv.pr (j / 2) (by omega)
        rw [show 2 * (j / 2) + 1 = j by omega] at g
        exact s.tr (hk (2 * (j / 2)) (by omega) (by omega)) g
    · exact iv.lo j hj hjn q
  | @step e e2 e' i b h hb m k ih =>
    intro pl s inj hin hev hpl iv
    obtain ⟨hb1, hbn, hlt, hoth⟩ := h.low s inj hin hb
    have inj2 : Inj n e2 := m.inj (inj.sw hin hbn)
    have hpl' : pl = i / 2 := by
      rcases hpl with q | q
      · exact q
      · exfalso
        have g := iv.lo b (by omega) hbn (by omega)
        unfold LoAt at g
        rw [show lowp b = i by unfold lowp; omega] at g
        exact s.asy g hlt
    subst hpl'
    have e2i : 2 * (i / 2) = i := by omega
    have hb2 : 2 * (b / 2) = b := by omega
    have s1 : swf e i b i = e b := swf_l e i b
    have s2 : swf e i b b = e i := swf_r e i b
    have so : ∀ k, k ≠ i → k ≠ b → swf e i b k = e k := fun k h1 h2 => swf_o e h1 h2
    have iv2 : IvE L n e2 (b / 2) n := by
      cases m with
      | yes m1 m2 =>
        rw [hb2] at m1 m2 ⊢
        have t1 : swf (swf e i b) b (b + 1) b = e (b + 1) := by rw [swf_l]; exact so _ (by omega) (by omega)
        have t2 : swf (swf e i b) b (b + 1) (b + 1) = e i := by rw [swf_r]; exact s2
        rw [so _ (by omega) (by omega), s2] at m2
        refine iv.downL s (Nat.le_refl n) hb1 hbn (by rw [e2i]; exact hlt) hoth ?_ (fun k k1 k2 k3 => ?_) ?_ (fun _ => ?_)
        · rw [e2i, swf_o _ (by omega) (by omega)]; exact s1
        · rw [swf_o _ k2 k3]; exact so k (by omega) k2
        · exact .inr ⟨m1, t1⟩
        · rw [t1, t2, e2i]; exact ⟨m2, .inr ⟨m2, rfl⟩⟩
      | no m1 =>
        rw [hb2] at m1
        refine iv.downL s (Nat.le_refl n) hb1 hbn (by rw [e2i]; exact hlt) hoth (by rw [e2i]; exact s1) (fun k k1 k2 k3 => so k (by omega) k2) (.inl (by rw [e2i]; exact s2)) (fun q => ?_)
        have m2 := m1 q
        rw [so (b + 1) (by omega) (by omega), s2] at m2 ⊢
        exact ⟨(s.tri (fun x => by have := inj i (b + 1) hin q x; omega)).resolve_right m2, .inl rfl⟩
    exact ih s inj2 hbn (by omega) (.inl rfl) iv2
theorem Dns.high (h : Dns L n true e i e') : ∀ {pu : Nat}, Sto L → Inj n e → i < n → (i % 2 = 1 ∨ n ≤ i + 1) → (pu = i / 2 ∨ n ≤ pu) → IvE L n e n pu → Inj n e' ∧ Ivl L n e' := by
  have hcand : ∀ q, (2 * q + 1 < n ∧ cand n true q = 2 * q + 1) ∨ (n ≤ 2 * q + 1 ∧ cand n true q = 2 * q) := fun q => by
    by_cases x : 2 * q + 1 < n
    · exact .inl ⟨x, if_pos ⟨rfl, x⟩⟩
    · exact .inr ⟨by omega, if_neg (fun y => x y.2)⟩
  induction h with
  | @stop e i h =>
    intro pu s inj hin hev hpl iv
    refine ⟨inj, iv.pr, fun j hj hjn => iv.lo j hj hjn (by omega), fun j hj hjn => ?_⟩
    by_cases q : (j / 2 - 1) / 2 = pu
    · have hl := lowp_lt hj
      have hk := h.high_stop s inj hin
      unfold HiAt
      have e1 : lowp j + 1 = i := by unfold lowp at hl ⊢; omega
      rw [e1]
      have hc := hcand (j / 2)
      have g := hk (j / 2) (by omega)
      rcases hc with ⟨c1, c2⟩ | ⟨c1, c2⟩ <;> rw [c2] at g
      · by_cases q2 : j % 2 = 1
        · rw [show 2 * (j / 2) + 1 = j by omega] at g
          exact g hjn
        · have g2 := iv.pr (j / 2) (by omega)
          rw [show 2 * (j / 2) = j by omega] at g2 g
          exact s.tr g2 (g (by omega))
      · rw [show 2 * (j / 2) = j by omega] at g
        exact g hjn
    · exact iv.hi j hj hjn q
  | @step e e2 e' i b h hb m k ih =>
    intro pu s inj hin hev hpl iv
    obtain ⟨p, hp, hbc, hbn, hlt, hoth⟩ := h.high s inj hin hb
    have inj2 : Inj n e2 := m.inj (inj.sw hin hbn)
    have hb' := hcand p
    rw [← hbc] at hb'
    have hod : i % 2 = 1 := by omega
    have e2i : 2 * (i / 2) + 1 = i := by omega
    have hpl' : pu = i / 2 := by
      rcases hpl with q | q
      · exact q
      · exfalso
        have g := iv.hi b (by omega) hbn (by omega)
        unfold HiAt at g
        rw [show lowp b + 1 = i by unfold lowp; omega] at g
        exact s.asy g hlt
    subst hpl'
    have hb2 : b / 2 = p := by omega
    have s1 : swf e i b i = e b := swf_l e i b
    have s2 : swf e i b b = e i := swf_r e i b
    have so : ∀ k, k ≠ i → k ≠ b → swf e i b k = e k := fun k h1 h2 => swf_o e h1 h2
    have iv2 : IvE L n e2 n p := by
      cases m with
      | yes m1 m2 =>
        rw [hb2] at m1 m2 ⊢
        have hbp : b = 2 * p + 1 := by omega
        have t1 : swf (swf e i b) (2 * p) (2 * p + 1) (2 * p) = e i := by rw [swf_l, ← hbp]; exact s2
        have t2 : swf (swf e i b) (2 * p) (2 * p + 1) (2 * p + 1) = e (2 * p) := by rw [swf_r]; exact so _ (by omega) (by omega)
        rw [so (2 * p) (by omega) (by omega), ← hbp, s2] at m2
        refine iv.downH s (Nat.le_refl n) hp hbc hbn (by rw [e2i]; exact hlt) hoth ?_ (fun k k1 k2 k3 => ?_) ?_ (fun _ => ?_)
        · rw [e2i, swf_o _ (by omega) (by omega)]; exact s1
        · rw [swf_o _ k2 k3]; exact so k (by omega) (by omega)
        · right; refine ⟨m1, ?_⟩
          rw [hbp] at t2 ⊢; exact t2
        · rw [t1, t2, e2i]; exact ⟨m2, .inr ⟨m2, rfl⟩⟩
      | no m1 =>
        rw [hb2] at m1
        refine iv.downH s (Nat.le_refl n) hp hbc hbn (by rw [e2i]; exact hlt) hoth (by rw [e2i]; exact s1) (fun k k1 k2 k3 => so k (by omega) (by omega)) (.inl (by rw [e2i]; exact s2)) (fun q => ?_)
        have hbp : b = 2 * p + 1 := by omega
        have m2 := m1 q
        rw [so (2 * p) (by omega) (by omega), ← hbp, s2] at m2 ⊢
        exact ⟨(s.tri (fun x => by have := inj (2 * p) i (by omega) hin x; omega)).resolve_right m2, .inl rfl⟩
    exact ih s inj2 hbn (by omega) (.inl hb2.symm) iv2
/-- Where the lower ends below are greater, nothing comes down. -/
theorem Dns.same_low (h : Dns L n false e i e') (s : Sto L) (inj : Inj n e) (hin : i < n) (hev : i % 2 = 0) (hl : ∀ j, 2 ≤ j → j < n → LoAt L e j) : e' = e := by
  cases h with
  | stop h => rfl
  | @step _ e2 _ _ b h hb m k =>
    exfalso
    obtain ⟨hb1, hbn, hlt, hoth⟩ := h.low s inj hin hb
    have g := hl b (by omega) hbn
    unfold LoAt at g
    rw [show lowp b = i by unfold lowp; omega] at g
    exact s.asy g hlt
/-- The state of a heap whose new entry at i is to be settled; what the program does; what it leaves. -/
theorem put_law {e0 : Nat → Nat} {i0 : Nat} (h : Hole L (n + 1) e n) (s : Sto L) (inj : Inj (n + 1) e) (hp : Paired L (n + 1) e n e0 i0) (u : Ups L e0 i0 e') : Inj (n + 1) e' ∧ Ivl L (n + 1) e' := by
  have fin : ∀ {pl pu : Nat}, (pl = n / 2 ∨ n + 1 ≤ pl) → (pu = n / 2 ∨ n + 1 ≤ pu) → IvE L (n + 1) e' pl pu → Ivl L (n + 1) e' := by
    intro pl pu a1 a2 iv
    exact ⟨iv.pr, fun j hj hjn => iv.lo j hj hjn (by omega), fun j hj hjn => iv.hi j hj hjn (by omega)⟩
  cases hp with
  | no h1 h2 =>
    by_cases hev : n % 2 = 0
    · obtain ⟨inj', q, pl', pu', _, _, iv, a1, a2, _⟩ := u.out s inj (h.even hev (fun q => by omega)) (by omega) (by omega) (by omega) (fun _ => .inl rfl) (fun _ => .inr (Nat.le_refl _))
      exact ⟨inj', fin (by omega) (by omega) iv⟩
    · have hlt : L (e (n - 1)) (e n) := (s.tri (fun q => by have := inj _ _ (by omega) (by omega) q; omega)).resolve_right (h2 (by omega))
      obtain ⟨inj', q, pl', pu', _, _, iv, a1, a2, _⟩ := u.out s inj (h.odd (by omega) hlt) (by omega) (by omega) (by omega) (fun _ => by omega) (fun _ => .inl rfl)
      exact ⟨inj', fin (by omega) (by omega) iv⟩
  | even he hn hl => omega
  | odd ho hl =>
    obtain ⟨inj', q, pl', pu', _, _, iv, a1, a2, _⟩ := u.out s (inj.sw (by omega) (by omega)) (h.oddS s ho (by omega) hl) (by omega) (by omega) (by omega) (fun _ => by omega) (fun _ => by omega)
    exact ⟨inj', fin (by omega) (by omega) iv⟩
/-- One call of the way up. -/
def PUp (L : Nat → Nat → Prop) (n : Nat) (e : Nat → Nat) (p : Nat) (e' : Nat → Nat) : Prop := ∃ e0 i0, Paired L n e p e0 i0 ∧ Ups L e0 i0 e'
theorem PUp.ups (h : PUp L n e p e') (s : Sto L) (pr : Prs L n e) (hp : p < n) : Ups L e p e' := by
  obtain ⟨e0, i0, h1, h2⟩ := h
  obtain ⟨a1, a2⟩ := h1.same s pr hp
  subst a1; subst a2; exact h2
theorem PUp.same (h : PUp L n e p e') (s : Sto L) (pr : Prs L n e) (hp : p < n) (hl : 2 ≤ p → LoAt L e p) (hh : 2 ≤ p → HiAt L e p) : e' = e :=
  (h.ups s pr hp).same s hl hh
/-- One call of the way down. -/
abbrev PDn (L : Nat → Nat → Prop) (n : Nat) (e : Nat → Nat) (p : Nat) (e' : Nat → Nat) : Prop := Dns L n (decide (p % 2 = 1)) e p e'
theorem PDn.low (h : PDn L n e p e') (hp : p % 2 = 0) : Dns L n false e p e' := by
  unfold PDn at h
  rw [decide_eq_false (by omega)] at h; exact h
theorem PDn.high (h : PDn L n e p e') (hp : p % 2 = 1) : Dns L n true e p e' := by
  unfold PDn at h
  rw [decide_eq_true (by omega)] at h; exact h
theorem IvE.pun (h : IvE L n e pl pu) (hp : n ≤ pu) : IvE L n e pl n :=
  ⟨h.pr, h.lo, fun j a b _ => h.hi j a b (by omega), h.bl, fun _ j a b c => by omega⟩
theorem IvE.pln (h : IvE L n e pl pu) (hp : n ≤ pl) : IvE L n e n pu :=
  ⟨h.pr, fun j a b _ => h.lo j a b (by omega), h.hi, fun _ j a b c => by omega, h.bu⟩
theorem PDn.ivl (h : PDn L n e p e') (s : Sto L) (inj : Inj n e) (hp : p < n) (iv : Ivl L n e) : Inj n e' ∧ Ivl L n e' := by
  by_cases q : p % 2 = 0
  · exact (h.low q).low s inj hp q (.inr (Nat.le_refl n)) (iv.ex s)
  · exact (h.high (by omega)).high s inj hp (.inl (by omega)) (.inr (Nat.le_refl n)) (iv.ex s)
/-- A choice by a condition (a structure: omega does not look into it). -/
structure Then2 (c A B : Prop) : Prop where
  yes : c → A
  no : ¬ c → B
theorem settle_law {e0 e1 e2 e3 e4 : Nat → Nat} {i0 : Nat} (h : Hole L n e i) (s : Sto L) (inj : Inj n e) (hin : i < n) (hp : Paired L n e i e0 i0)
    (u1 : PUp L n e0 (2 * (i / 2)) e1)
    (u2 : Then2 (2 * (i / 2) + 1 < n) (∃ p, p < n ∧ e1 p = e0 (2 * (i / 2) + 1) ∧ PUp L n e1 p e2) (e2 = e1))
    (d1 : ∃ p, p < n ∧ e2 p = e0 (2 * (i / 2)) ∧ PDn L n e2 p e3)
    (d2 : Then2 (2 * (i / 2) + 1 < n) (∃ p, p < n ∧ e3 p = e0 (2 * (i / 2) + 1) ∧ PDn L n e3 p e4) (e4 = e3)) :
    Inj n e4 ∧ Ivl L n e4 := by
  obtain ⟨p1, d11, d12, d13⟩ := d1
  have last : Inj n e3 ∧ Ivl L n e3 → Inj n e4 ∧ Ivl L n e4 := fun ⟨g1, g2⟩ => by
    by_cases q : 2 * (i / 2) + 1 < n
    · obtain ⟨p2, q1, q2, q3⟩ := d2.yes q
      exact q3.ivl s g1 q1 g2
    · rw [d2.no (by omega)]; exact ⟨g1, g2⟩
  cases hp with
  | no h1 h2 =>
    by_cases hev : i % 2 = 0
    · rw [show 2 * (i / 2) = i by omega] at *
      have u := h.even hev (fun q => (s.tri (fun x => by have := inj _ _ hin q x; omega)).resolve_right (h1 hev q))
      obtain ⟨inj', q, pl', pu', hq, hqe, iv, a1, a2, a3, _⟩ := (u1.ups s u.pr hin).out s inj u hin (by omega) (by omega) (fun _ => .inl rfl) (fun _ => .inr (Nat.le_refl _))
      by_cases hy : i + 1 < n
      · obtain ⟨b1, b2, b3, b4⟩ := a3 hev hy
        obtain ⟨p, g1, g2, g3⟩ := u2.yes hy
        rw [← b1 (i + 1) (by omega)] at g2
        have hpi := inj' _ _ g1 hy g2
        subst hpi
        have hs := g3.same s iv.pr hy (fun _ => iv.lo _ (by omega) hy (by omega)) (fun _ => iv.hi _ (by omega) hy (by omega))
        subst hs
        rw [← hqe] at d12
        have hpq := inj' _ _ d11 hq d12
        subst hpq
        exact last ((d13.low b2).low s inj' hq b2 (by omega) (iv.pun (by omega)))
      · have h2e := u2.no (by omega)
        subst h2e
        have ivl : Ivl L n e2 := ⟨iv.pr, fun j hj hjn => iv.lo j hj hjn (by omega), fun j hj hjn => iv.hi j hj hjn (by omega)⟩
        exact last (d13.ivl s inj' d11 ivl)
    · rw [show 2 * (i / 2) = i - 1 by omega] at *
      rw [show i - 1 + 1 = i by omega] at *
      have u := h.odd (by omega) ((s.tri (fun x => by have := inj _ _ (by omega) hin x; omega)).resolve_right (h2 (by omega)))
      have hs := u1.same s u.pr (by omega) (fun _ => u.lo _ (by omega) (by omega) (by omega) (by omega)) (fun _ => u.hi _ (by omega) (by omega) (by omega) (by omega))
      subst hs
      obtain ⟨p, g1, g2, g3⟩ := u2.yes hin
      have hpi := inj _ _ g1 hin g2
      subst hpi
      obtain ⟨inj', q, pl', pu', hq, hqe, iv, a1, a2, _, a3⟩ := (g3.ups s u.pr hin).out s inj u hin (by omega) (by omega) (fun _ => by omega) (fun _ => .inl rfl)
      obtain ⟨b1, b2, b3, b4⟩ := a3 (by omega)
      rw [← b1 (p - 1) (by omega)] at d12
      have hp1 := inj' _ _ d11 (by omega) d12
      subst hp1
      have hs := (d13.low (by omega)).same_low s inj' d11 (by omega) (fun j a b => iv.lo j a b (by omega))
      subst hs
      obtain ⟨p2, k1, k2, k3⟩ := d2.yes hin
      rw [← hqe] at k2
      have hpq := inj' _ _ k1 hq k2
      subst hpq
      exact (k3.high b2).high s inj' hq (.inl b2) (by omega) (iv.pln (by omega))
  | even he hn hl =>
    rw [show 2 * (i / 2) = i by omega] at *
    have u := h.evenS s he hn hl
    have inj0 := inj.sw hin hn
    have hs := u1.same s u.pr hin (fun _ => u.lo _ (by omega) (by omega) (by omega) (by omega)) (fun _ => u.hi _ (by omega) (by omega) (by omega) (by omega))
    subst hs
    obtain ⟨p, g1, g2, g3⟩ := u2.yes hn
    have hpi := inj0 _ _ g1 hn g2
    subst hpi
    obtain ⟨inj', q, pl', pu', hq, hqe, iv, a1, a2, _, a3⟩ := (g3.ups s u.pr hn).out s inj0 u hn (by omega) (by omega) (fun _ => by omega) (fun _ => .inr (Nat.le_refl _))
    obtain ⟨b1, b2, b3, b4⟩ := a3 (by omega)
    rw [← b1 i he] at d12
    have hp1 := inj' _ _ d11 hin d12
    subst hp1
    exact last ((d13.low he).low s inj' hin he (by omega) (iv.pun (by omega)))
  | odd ho hl =>
    rw [show 2 * (i / 2) = i - 1 by omega] at *
    rw [show i - 1 + 1 = i by omega] at *
    have u := h.oddS s ho hin hl
    have inj0 := inj.sw (show i - 1 < n by omega) hin
    obtain ⟨inj', q, pl', pu', hq, hqe, iv, a1, a2, a3, _⟩ := (u1.ups s u.pr (by omega)).out s inj0 u (by omega) (by omega) (by omega) (fun _ => by omega) (fun _ => by omega)
    obtain ⟨b1, b2, b3, b4⟩ := a3 (by omega) (by omega)
    obtain ⟨p, g1, g2, g3⟩ := u2.yes hin
    rw [← b1 i ho] at g2
    have hpi := inj' _ _ g1 hin g2
    subst hpi
    have hs := g3.same s iv.pr hin (fun _ => iv.lo _ (by omega) hin (by omega)) (fun _ => iv.hi _ (by omega) hin (by omega))
    subst hs
    rw [← hqe] at d12
    have hpq := inj' _ _ d11 hq d12
    subst hpq
    have hs := (d13.low b2).same_low s inj' hq b2 (fun j a b => iv.lo j a b (by omega))
    subst hs
    obtain ⟨p2, k1, k2, k3⟩ := d2.yes hin
    rw [← b1 p ho] at k2
    have hpq := inj' _ _ k1 hin k2
    subst hpq
    exact (k3.high ho).high s inj' hin (.inl ho) (by omega) (iv.pln (by omega))
end
end Go.Proofs.Ytingeijodooocaa
