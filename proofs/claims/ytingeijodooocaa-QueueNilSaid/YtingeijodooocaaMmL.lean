/- The interval heap, plain: places, pairs, up, down. No program is in sight. -/
import Derived.Below
namespace Go.Proofs.Ytingeijodooocaa
/-- A strict total order. -/
structure Sto (L : Nat → Nat → Prop) : Prop where
  irr : ∀ a, ¬ L a a
  tr : ∀ {a b c}, L a b → L b c → L a c
  tri : ∀ {a b}, a ≠ b → L a b ∨ L b a
theorem Sto.asy {L : Nat → Nat → Prop} (s : Sto L) {a b : Nat} (h : L a b) : ¬ L b a := fun k => s.irr _ (s.tr h k)
/-- A function with two values changed. -/
def swf (e : Nat → Nat) (i j : Nat) : Nat → Nat := fun k => if k = j then e i else if k = i then e j else e k
theorem swf_l (e : Nat → Nat) (i j : Nat) : swf e i j i = e j := by
  unfold swf
  by_cases h : i = j
  · rw [if_pos h, h]
  · rw [if_neg h, if_pos rfl]
theorem swf_r (e : Nat → Nat) (i j : Nat) : swf e i j j = e i := by unfold swf; rw [if_pos rfl]
theorem swf_o (e : Nat → Nat) {i j k : Nat} (h1 : k ≠ i) (h2 : k ≠ j) : swf e i j k = e k := by unfold swf; rw [if_neg h2, if_neg h1]
/-- The lower end of the pair above. -/
def lowp (j : Nat) : Nat := (j / 2 - 1) / 2 * 2
section
variable {L : Nat → Nat → Prop} {n : Nat} {e : Nat → Nat} {i j p pl pu : Nat}
/-- Different entries at different places. -/
def Inj (n : Nat) (e : Nat → Nat) : Prop := ∀ i j, i < n → j < n → e i = e j → i = j
theorem swf_or (e : Nat → Nat) (i j k : Nat) : (k = j ∧ swf e i j k = e i) ∨ (k ≠ j ∧ k = i ∧ swf e i j k = e j) ∨ (k ≠ j ∧ k ≠ i ∧ swf e i j k = e k) := by
  by_cases h : k = j
  · exact .inl ⟨h, by rw [h]; exact swf_r e i j⟩
  · by_cases h2 : k = i
    · exact .inr (.inl ⟨h, h2, by rw [h2]; exact swf_l e i j⟩)
    · exact .inr (.inr ⟨h, h2, swf_o e h2 h⟩)
theorem Inj.sw (h : Inj n e) (hi : i < n) (hj : j < n) : Inj n (swf e i j) := by
  intro a b ha hb hab
  rcases swf_or e i j a with ⟨a1, a2⟩ | ⟨a1, a0, a2⟩ | ⟨a1, a0, a2⟩ <;> rcases swf_or e i j b with ⟨b1, b2⟩ | ⟨b1, b0, b2⟩ | ⟨b1, b0, b2⟩ <;> rw [a2, b2] at hab
  · omega
  · have := h _ _ hi hj hab; omega
  · have := h _ _ hi hb hab; omega
  · have := h _ _ hj hi hab; omega
  · omega
  · have := h _ _ hj hb hab; omega
  · have := h _ _ ha hi hab; omega
  · have := h _ _ ha hj hab; omega
  · exact h _ _ ha hb hab
/-- The pairs are in order. -/
def Prs (L : Nat → Nat → Prop) (n : Nat) (e : Nat → Nat) : Prop := ∀ a, 2 * a + 1 < n → L (e (2 * a)) (e (2 * a + 1))
def LoAt (L : Nat → Nat → Prop) (e : Nat → Nat) (j : Nat) : Prop := L (e (lowp j)) (e j)
def HiAt (L : Nat → Nat → Prop) (e : Nat → Nat) (j : Nat) : Prop := L (e j) (e (lowp j + 1))
/-- The heap: each lies within the pair above. -/
structure Ivl (L : Nat → Nat → Prop) (n : Nat) (e : Nat → Nat) : Prop where
  pr : Prs L n e
  lo : ∀ j, 2 ≤ j → j < n → LoAt L e j
  hi : ∀ j, 2 ≤ j → j < n → HiAt L e j
/-- The least one stands first. -/
theorem Ivl.least (h : Ivl L n e) (s : Sto L) : ∀ j, j < n → j = 0 ∨ L (e 0) (e j) := by
  intro j
  induction j using Nat.strongRecOn with
  | _ j ih =>
    intro hj
    by_cases h0 : j = 0
    · exact .inl h0
    · right
      by_cases h1 : j = 1
      · subst h1
        exact h.pr 0 hj
      · have hl := h.lo j (by omega) hj
        rcases ih (lowp j) (by unfold lowp; omega) (by unfold lowp; omega) with q | q
        · unfold LoAt at hl
          rw [q] at hl
          exact hl
        · exact s.tr q hl
/-- On the way up: all is well but for the entry at i with what is above it, and but for the upper ends of the pair p, whose children may pass them. -/
structure UpS (L : Nat → Nat → Prop) (n : Nat) (e : Nat → Nat) (i pl pu : Nat) : Prop where
  pr : Prs L n e
  lo : ∀ j, 2 ≤ j → j < n → j ≠ i → (j / 2 - 1) / 2 ≠ pl → LoAt L e j
  hi : ∀ j, 2 ≤ j → j < n → j ≠ i → (j / 2 - 1) / 2 ≠ pu → HiAt L e j
  ch : 2 ≤ i → ∀ j, 2 ≤ j → j < n → (j / 2 - 1) / 2 = i / 2 → L (e (lowp i)) (e j) ∧ L (e j) (e (lowp i + 1))
  bl : 1 ≤ pl → ∀ j, 2 ≤ j → j < n → (j / 2 - 1) / 2 = pl → L (e (lowp (2 * pl))) (e j)
  bu : 1 ≤ pu → ∀ j, 2 ≤ j → j < n → (j / 2 - 1) / 2 = pu → L (e j) (e (lowp (2 * pu) + 1))
/-- All is well but for the lower ends of the pair pl with their children, and the upper ends of pu. -/
structure IvE (L : Nat → Nat → Prop) (n : Nat) (e : Nat → Nat) (pl pu : Nat) : Prop where
  pr : Prs L n e
  lo : ∀ j, 2 ≤ j → j < n → (j / 2 - 1) / 2 ≠ pl → LoAt L e j
  hi : ∀ j, 2 ≤ j → j < n → (j / 2 - 1) / 2 ≠ pu → HiAt L e j
  bl : 1 ≤ pl → ∀ j, 2 ≤ j → j < n → (j / 2 - 1) / 2 = pl → L (e (lowp (2 * pl))) (e j)
  bu : 1 ≤ pu → ∀ j, 2 ≤ j → j < n → (j / 2 - 1) / 2 = pu → L (e j) (e (lowp (2 * pu) + 1))
theorem IvE.all (h : IvE L n e pl pu) (h1 : n ≤ pl) (h2 : n ≤ pu) : Ivl L n e :=
  ⟨h.pr, fun j a b => h.lo j a b (by omega), fun j a b => h.hi j a b (by omega)⟩
theorem Ivl.ex (h : Ivl L n e) (s : Sto L) : IvE L n e pl pu := by
  refine ⟨h.pr, fun j a b _ => h.lo j a b, fun j a b _ => h.hi j a b, fun h1 j a b c => ?_, fun h1 j a b c => ?_⟩
  · have g1 := h.lo j a b
    unfold LoAt at g1
    have e1 : lowp j = 2 * pl := by unfold lowp; omega
    have g2 := h.lo (lowp j) (by omega) (by omega)
    unfold LoAt at g2
    rw [e1] at g1 g2
    exact s.tr g2 g1
  · have g1 := h.hi j a b
    unfold HiAt at g1
    have e1 : lowp j + 1 = 2 * pu + 1 := by unfold lowp; omega
    have g2 := h.hi (2 * pu + 1) (by omega) (by omega)
    unfold HiAt at g2
    rw [e1] at g1
    rw [show lowp (2 * pu + 1) = lowp (2 * pu) by unfold lowp; omega] at g2
    exact s.tr g1 g2
theorem lowp_even (j : Nat) : lowp j % 2 = 0 := by unfold lowp; omega
theorem lowp_lt (h : 2 ≤ j) : lowp j + 1 < j := by unfold lowp; omega
theorem lowp_half (j : Nat) : lowp j / 2 = (j / 2 - 1) / 2 := by unfold lowp; omega
/-- The entry is less than the lower end above: they change. -/
theorem UpS.low (h : UpS L n e i pl pu) (s : Sto L) (hi2 : 2 ≤ i) (hin : i < n) (hpl : pl = i / 2 ∨ n ≤ pl) (hpu : i / 2 ≤ pu) (hlt : L (e i) (e (lowp i))) :
    i % 2 = 0 ∧ UpS L n (swf e i (lowp i)) (lowp i) n pu := by
  have hl1 := lowp_lt hi2
  have hle := lowp_even i
  have hlh := lowp_half i
  have hev : i % 2 = 0 := by
    by_cases q : i % 2 = 0
    · exact q
    · exfalso
      have h1 := h.pr (i / 2) (by omega)
      rw [show 2 * (i / 2) + 1 = i by omega] at h1
      have h2 := h.lo (2 * (i / 2)) (by omega) (by omega) (by omega) (by omega)
      unfold LoAt at h2
      rw [show lowp (2 * (i / 2)) = lowp i by unfold lowp; omega] at h2
      exact s.asy hlt (s.tr h2 h1)
  obtain ⟨l, hl⟩ : ∃ l, l = lowp i := ⟨_, rfl⟩
  rw [← hl] at hl1 hle hlh hlt ⊢
  have hpl' : ∀ k, L (e l) (e k) → L (e i) (e k) := fun k hk => s.tr hlt hk
  have prl := h.pr (l / 2) (by omega)
  rw [show 2 * (l / 2) = l by omega] at prl
  have el : swf e i l l = e i := swf_r e i l
  have ei : swf e i l i = e l := swf_l e i l
  have eo : ∀ k, k ≠ i → k ≠ l → swf e i l k = e k := fun k h1 h2 => swf_o e h1 h2
  refine ⟨hev, fun a ha => ?_, fun j hj hjn hjl hjp => ?_, fun j hj hjn hjl hjp => ?_, fun hl2 j hj hjn hjc => ?_, fun hp1 j hj hjn hjc => ?_, fun hp1 j hj hjn hjc => ?_⟩
  · by_cases q : 2 * a = i
    · rw [q, ei, eo (i + 1) (by omega) (by omega)]
      have := h.lo (i + 1) (by omega) (by omega) (by omega) (by omega)
      unfold LoAt at this
      rw [show lowp (i + 1) = l by rw [hl]; unfold lowp; omega] at this
      exact this
    · by_cases q2 : 2 * a = l
      · rw [q2, el, eo (l + 1) (by omega) (by omega)]
        exact hpl' _ prl
      · rw [eo _ q q2, eo _ (by omega) (by omega)]
        exact h.pr a ha
  · unfold LoAt
    by_cases q : j = i
    · subst q
      rw [← hl, el, ei]; exact hlt
    · rw [eo j q hjl]
      by_cases q2 : lowp j = l
      · rw [q2, el]
        have h1 := h.lo j hj hjn q (by have := lowp_half j; rw [q2] at this; omega)
        unfold LoAt at h1
        rw [q2] at h1
        exact hpl' _ h1
      · by_cases q3 : lowp j = i
        · rw [q3, ei]
          have := (h.ch hi2 j hj hjn (by have := lowp_half j; rw [q3] at this; omega)).1
          rw [← hl] at this
          exact this
        · rw [eo _ q3 q2]
          refine h.lo j hj hjn q (fun e2 => ?_)
          have := lowp_half j
          have := lowp_even j
          have := lowp_lt hj
          omega
  · unfold HiAt
    have hno : ∀ k, lowp k + 1 ≠ i ∧ lowp k + 1 ≠ l := fun k => by have := lowp_even k; omega
    rw [eo (lowp j + 1) (hno j).1 (hno j).2]
    by_cases q : j = i
    · subst q
      rw [ei, ← hl]; exact prl
    · rw [eo j q hjl]
      exact h.hi j hj hjn q hjp
  · have hno : ∀ k, lowp k + 1 ≠ i ∧ lowp k + 1 ≠ l := fun k => by have := lowp_even k; omega
    have hll : lowp l < l := by have := lowp_lt (j := l) hl2; omega
    rw [eo (lowp l) (by omega) (by omega), eo (lowp l + 1) (hno l).1 (hno l).2]
    have g1 := h.lo l hl2 (by omega) (by omega) (by have := lowp_half l; omega)
    have g2 := h.hi l hl2 (by omega) (by omega) (by have := lowp_half l; omega)
    unfold LoAt at g1
    unfold HiAt at g2
    have ejl : lowp j = l := by have := lowp_half j; have := lowp_even j; omega
    by_cases q : j = i
    · subst q
      rw [ei]; exact ⟨g1, g2⟩
    · have hjl2 : j ≠ l := by have := lowp_lt hj; omega
      rw [eo j q hjl2]
      have g3 := h.lo j hj hjn q (by omega)
      have g4 := h.hi j hj hjn q (by omega)
      have g5 := h.hi (l + 1) (by omega) (by omega) (by omega) (by have := lowp_half (l + 1); omega)
      unfold LoAt at g3
      unfold HiAt at g4 g5
      rw [ejl] at g3 g4
      rw [show lowp (l + 1) = lowp l by unfold lowp; omega] at g5
      exact ⟨s.tr g1 g3, s.tr g4 g5⟩
  · omega
  · have := lowp_even (2 * pu)
    have := lowp_lt hj
    rw [eo j (by unfold lowp at *; omega) (by omega), eo (lowp (2 * pu) + 1) (by omega) (by omega)]
    exact h.bu hp1 j hj hjn hjc
/-- The entry is greater than the upper end above: they change. -/
theorem UpS.high (h : UpS L n e i pl pu) (s : Sto L) (inj : Inj n e) (hi2 : 2 ≤ i) (hin : i < n) (hpl : i / 2 ≤ pl) (hpu : pu = i / 2 ∨ n ≤ pu) (hnl : ¬ L (e i) (e (lowp i))) (hlt : L (e (lowp i + 1)) (e i)) :
    (i % 2 = 1 ∨ n ≤ i + 1) ∧ UpS L n (swf e i (lowp i + 1)) (lowp i + 1) pl n := by
  have hl1 := lowp_lt hi2
  have hle := lowp_even i
  have hlh := lowp_half i
  have hod : i % 2 = 1 ∨ n ≤ i + 1 := by
    by_cases q : i % 2 = 1
    · exact .inl q
    · by_cases q2 : n ≤ i + 1
      · exact .inr q2
      · exfalso
        have h1 := h.pr (i / 2) (by omega)
        rw [show 2 * (i / 2) = i by omega] at h1
        have h2 := h.hi (i + 1) (by omega) (by omega) (by omega) (by omega)
        unfold HiAt at h2
        rw [show lowp (i + 1) = lowp i by unfold lowp; omega] at h2
        exact s.asy hlt (s.tr h1 h2)
  obtain ⟨l, hl⟩ : ∃ l, l = lowp i := ⟨_, rfl⟩
  rw [← hl] at hl1 hle hlh hlt hnl ⊢
  have prl := h.pr (l / 2) (by omega)
  rw [show 2 * (l / 2) = l by omega] at prl
  have hli : L (e l) (e i) := (s.tri (fun q => by have := inj l i (by omega) hin q; omega)).resolve_right hnl
  have eh : swf e i (l + 1) (l + 1) = e i := swf_r e i (l + 1)
  have ei : swf e i (l + 1) i = e (l + 1) := swf_l e i (l + 1)
  have eo : ∀ k, k ≠ i → k ≠ l + 1 → swf e i (l + 1) k = e k := fun k h1 h2 => swf_o e h1 h2
  have hch : ∀ j, lowp j = i → i % 2 = 0 → j < n → 2 ≤ j → False := fun j hj he hjn hj2 => by
    have := lowp_lt hj2; omega
  refine ⟨hod, fun a ha => ?_, fun j hj hjn hjl hjp => ?_, fun j hj hjn hjl hjp => ?_, fun hl2 j hj hjn hjc => ?_, fun hp1 j hj hjn hjc => ?_, fun hp1 j hj hjn hjc => ?_⟩
  · by_cases q : 2 * a + 1 = i
    · rw [q, ei, eo (2 * a) (by omega) (by omega)]
      have := h.hi (2 * a) (by omega) (by omega) (by omega) (by omega)
      unfold HiAt at this
      rw [show lowp (2 * a) = l by rw [hl]; unfold lowp; omega] at this
      exact this
    · by_cases q1 : 2 * a = i
      · omega
      · by_cases q2 : 2 * a = l
        · rw [q2, eh, eo l (by omega) (by omega)]; exact hli
        · rw [eo (2 * a) q1 (by omega), eo (2 * a + 1) q (by omega)]
          exact h.pr a ha
  · unfold LoAt
    by_cases q : j = i
    · subst q
      rw [← hl, ei, eo l (by omega) (by omega)]; exact prl
    · rw [eo j q hjl]
      have hlj : lowp j ≠ i := fun q3 => by
        have := lowp_even j
        rw [q3] at this
        have := lowp_lt hj
        omega
      rw [eo _ hlj (by have := lowp_even j; omega)]
      exact h.lo j hj hjn q hjp
  · unfold HiAt
    by_cases q : j = i
    · subst q
      rw [← hl, ei, eh]; exact hlt
    · rw [eo j q hjl]
      by_cases q2 : lowp j = l
      · rw [q2, eh]
        have h1 := h.hi j hj hjn q (by have := lowp_half j; rw [q2] at this; omega)
        unfold HiAt at h1
        rw [q2] at h1
        exact s.tr h1 hlt
      · by_cases q3 : lowp j + 1 = i
        · rw [q3, ei]
          have := (h.ch hi2 j hj hjn (by have := lowp_half j; have := lowp_even j; omega)).2
          rw [← hl] at this
          exact this
        · rw [eo _ q3 (by omega)]
          refine h.hi j hj hjn q (fun e2 => ?_)
          have h6 := lowp_half j
          have := lowp_even j
          have := lowp_lt hj
          omega
  · have hl2' : 2 ≤ l := by omega
    have hll : lowp (l + 1) = lowp l := by unfold lowp; omega
    have hll2 : lowp l + 1 < l := lowp_lt hl2'
    rw [hll, eo (lowp l) (by omega) (by omega), eo (lowp l + 1) (by omega) (by omega)]
    have g1 := h.lo (l + 1) (by omega) (by omega) (by omega) (by have := lowp_half (l + 1); omega)
    have g2 := h.hi (l + 1) (by omega) (by omega) (by omega) (by have := lowp_half (l + 1); omega)
    unfold LoAt at g1
    unfold HiAt at g2
    rw [hll] at g1 g2
    have ejl : lowp j = l := by have := lowp_half j; have := lowp_even j; omega
    by_cases q : j = i
    · subst q
      rw [ei]; exact ⟨g1, g2⟩
    · have hjl2 : j ≠ l + 1 := by have := lowp_lt hj; omega
      rw [eo j q hjl2]
      have g3 := h.lo j hj hjn q (by omega)
      have g4 := h.hi j hj hjn q (by omega)
      have g5 := h.lo l hl2' (by omega) (by omega) (by have := lowp_half l; omega)
      unfold LoAt at g3 g5
      unfold HiAt at g4
      rw [ejl] at g3 g4
      exact ⟨s.tr g5 g3, s.tr g4 g2⟩
  · have := lowp_even (2 * pl)
    have := lowp_lt hj
    rw [eo j (by omega) (by omega), eo (lowp (2 * pl)) (by omega) (by omega)]
    exact h.bl hp1 j hj hjn hjc
  · omega
/-- Nothing above is passed: the way up ends. -/
theorem UpS.stop (h : UpS L n e i pl pu) (hl : 2 ≤ i → LoAt L e i) (hh : 2 ≤ i → HiAt L e i) : IvE L n e pl pu :=
  ⟨h.pr, fun j a b c => if q : j = i then (by subst q; exact hl a) else h.lo j a b q c,
   fun j a b c => if q : j = i then (by subst q; exact hh a) else h.hi j a b q c, h.bl, h.bu⟩
end
end Go.Proofs.Ytingeijodooocaa
