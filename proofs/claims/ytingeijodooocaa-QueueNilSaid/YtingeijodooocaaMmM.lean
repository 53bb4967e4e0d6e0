/- The interval heap, plain: what the program's ways up and down do, step by step, and that a heap is a heap again behind them. -/
import Derived.Test.YtingeijodooocaaMmL
namespace Go.Proofs.Ytingeijodooocaa
section
variable {L : Nat → Nat → Prop} {n : Nat} {e e' e2 : Nat → Nat} {i j p pl pu a b : Nat} {hi' : Bool}
/-- All is well but for the entry at i. -/
structure Hole (L : Nat → Nat → Prop) (n : Nat) (e : Nat → Nat) (i : Nat) : Prop where
  pr : ∀ a, 2 * a + 1 < n → 2 * a ≠ i → 2 * a + 1 ≠ i → L (e (2 * a)) (e (2 * a + 1))
  lo : ∀ j, 2 ≤ j → j < n → j ≠ i → lowp j ≠ i → LoAt L e j
  hi : ∀ j, 2 ≤ j → j < n → j ≠ i → lowp j + 1 ≠ i → HiAt L e j
  ch : 2 ≤ i → ∀ j, 2 ≤ j → j < n → (j / 2 - 1) / 2 = i / 2 → L (e (lowp i)) (e j) ∧ L (e j) (e (lowp i + 1))
theorem Ivl.hole (h : Ivl L (n + 1) e) (s : Sto L) (hin : i < n) (hk : ∀ k, k < n → k ≠ i → e' k = e k) : Hole L n e' i := by
  refine ⟨fun a h1 h2 h3 => ?_, fun j h1 h2 h3 h4 => ?_, fun j h1 h2 h3 h4 => ?_, fun hi2 j h1 h2 h3 => ?_⟩
  · rw [hk _ (by omega) h2, hk _ h1 h3]; exact h.pr a (by omega)
  · unfold LoAt
    have := lowp_lt h1
    rw [hk _ h2 h3, hk _ (by omega) h4]; exact h.lo j h1 (by omega)
  · unfold HiAt
    have := lowp_lt h1
    rw [hk _ h2 h3, hk _ (by omega) h4]; exact h.hi j h1 (by omega)
  · have := lowp_lt hi2
    have g1 := h.lo j h1 (by omega)
    have g2 := h.hi j h1 (by omega)
    unfold LoAt at g1
    unfold HiAt at g2
    have e1 : lowp j = 2 * (i / 2) := by unfold lowp; omega
    rw [e1] at g1 g2
    have g3 := h.lo (2 * (i / 2)) (by omega) (by omega)
    have g4 := h.hi (2 * (i / 2) + 1) (by omega) (by omega)
    unfold LoAt at g3
    unfold HiAt at g4
    rw [show lowp (2 * (i / 2)) = lowp i by unfold lowp; omega] at g3
    rw [show lowp (2 * (i / 2) + 1) = lowp i by unfold lowp; omega] at g4
    rw [hk j h2 (by omega), hk _ (by omega) (by omega), hk _ (by omega) (by omega)]
    exact ⟨s.tr g3 g1, s.tr g2 g4⟩
theorem Ivl.more (h : Ivl L n e) (hk : ∀ k, k < n → e' k = e k) : Hole L (n + 1) e' n := by
  refine ⟨fun a h1 h2 h3 => ?_, fun j h1 h2 h3 h4 => ?_, fun j h1 h2 h3 h4 => ?_, fun hi2 j h1 h2 h3 => ?_⟩
  · rw [hk _ (by omega), hk _ (by omega)]; exact h.pr a (by omega)
  · unfold LoAt
    have := lowp_lt h1
    rw [hk _ (by omega), hk _ (by omega)]; exact h.lo j h1 (by omega)
  · unfold HiAt
    have := lowp_lt h1
    rw [hk _ (by omega), hk _ (by omega)]; exact h.hi j h1 (by omega)
  · omega
theorem Hole.even (h : Hole L n e i) (he : i % 2 = 0) (hlt : i + 1 < n → L (e i) (e (i + 1))) : UpS L n e i (i / 2) n := by
  refine ⟨fun a ha => ?_, fun j h1 h2 h3 h4 => ?_, fun j h1 h2 h3 h4 => ?_, h.ch, fun h1 j h2 h3 h4 => ?_, fun h1 j h2 h3 h4 => ?_⟩
  · by_cases q : 2 * a = i
    · subst q; exact hlt ha
    · exact h.pr a ha q (by omega)
  · exact h.lo j h1 h2 h3 (by unfold lowp; omega)
  · exact h.hi j h1 h2 h3 (by unfold lowp; omega)
  · have := (h.ch (by omega) j h2 h3 h4).1
    rw [show lowp (2 * (i / 2)) = lowp i by unfold lowp; omega]; exact this
  · omega
theorem Hole.odd (h : Hole L n e i) (ho : i % 2 = 1) (hlt : L (e (i - 1)) (e i)) : UpS L n e i n (i / 2) := by
  refine ⟨fun a ha => ?_, fun j h1 h2 h3 h4 => ?_, fun j h1 h2 h3 h4 => ?_, h.ch, fun h1 j h2 h3 h4 => ?_, fun h1 j h2 h3 h4 => ?_⟩
  · by_cases q : 2 * a + 1 = i
    · subst q; exact hlt
    · exact h.pr a ha (by omega) q
  · exact h.lo j h1 h2 h3 (by unfold lowp; omega)
  · exact h.hi j h1 h2 h3 (by unfold lowp; omega)
  · omega
  · have := (h.ch (by omega) j h2 h3 h4).2
    rw [show lowp (2 * (i / 2)) = lowp i by unfold lowp; omega]; exact this
theorem Hole.evenS (h : Hole L n e i) (s : Sto L) (he : i % 2 = 0) (hn : i + 1 < n) (hlt : L (e (i + 1)) (e i)) : UpS L n (swf e i (i + 1)) (i + 1) (i / 2) n := by
  have ea : swf e i (i + 1) i = e (i + 1) := swf_l e i (i + 1)
  have eb : swf e i (i + 1) (i + 1) = e i := swf_r e i (i + 1)
  have eo : ∀ k, k ≠ i → k ≠ i + 1 → swf e i (i + 1) k = e k := fun k h1 h2 => swf_o e h1 h2
  have el : lowp (i + 1) = lowp i := by unfold lowp; omega
  refine ⟨fun a ha => ?_, fun j h1 h2 h3 h4 => ?_, fun j h1 h2 h3 h4 => ?_, fun hi2 j h1 h2 h3 => ?_, fun h1 j h2 h3 h4 => ?_, fun h1 j h2 h3 h4 => ?_⟩
  · by_cases q : 2 * a = i
    · rw [q, ea, eb]; exact hlt
    · rw [eo _ q (by omega), eo _ (by omega) (by omega)]; exact h.pr a ha q (by omega)
  · unfold LoAt
    have := lowp_lt h1
    have hp := lowp_half j
    have hp2 := lowp_even j
    rw [eo (lowp j) (by omega) (by omega)]
    by_cases q : j = i
    · subst q
      rw [ea]
      have := h.lo (j + 1) (by omega) hn (by omega) (by rw [el]; omega)
      unfold LoAt at this
      rw [el] at this; exact this
    · rw [eo j q h3]; exact h.lo j h1 h2 q (by omega)
  · unfold HiAt
    have := lowp_lt h1
    have hp := lowp_half j
    have hp2 := lowp_even j
    by_cases q : j = i
    · subst q
      rw [ea, eo _ (by omega) (by omega)]
      have := h.hi (j + 1) (by omega) hn (by omega) (by rw [el]; omega)
      unfold HiAt at this
      rw [el] at this; exact this
    · rw [eo j q h3]
      by_cases q2 : lowp j = i
      · have g := h.hi j h1 h2 q (by omega)
        unfold HiAt at g
        rw [q2] at g ⊢
        rw [eb]; exact s.tr g hlt
      · rw [eo _ (by omega) (by omega)]; exact h.hi j h1 h2 q (by omega)
  · have := lowp_lt (j := i) (by omega)
    rw [el, eo _ (by omega) (by omega), eo _ (by omega) (by omega), eo _ (by omega) (by omega)]
    exact h.ch (by omega) j h1 h2 (by omega)
  · have := lowp_lt (j := i) (by omega)
    rw [show lowp (2 * (i / 2)) = lowp i by unfold lowp; omega, eo _ (by omega) (by omega), eo _ (by omega) (by omega)]
    exact (h.ch (by omega) j h2 h3 h4).1
  · omega
theorem Hole.oddS (h : Hole L n e i) (s : Sto L) (ho : i % 2 = 1) (hn : i < n) (hlt : L (e i) (e (i - 1))) : UpS L n (swf e (i - 1) i) (i - 1) n (i / 2) := by
  have ea : swf e (i - 1) i (i - 1) = e i := swf_l e (i - 1) i
  have eb : swf e (i - 1) i i = e (i - 1) := swf_r e (i - 1) i
  have eo : ∀ k, k ≠ i - 1 → k ≠ i → swf e (i - 1) i k = e k := fun k h1 h2 => swf_o e h1 h2
  have el : lowp (i - 1) = lowp i := by unfold lowp; omega
  refine ⟨fun a ha => ?_, fun j h1 h2 h3 h4 => ?_, fun j h1 h2 h3 h4 => ?_, fun hi2 j h1 h2 h3 => ?_, fun h1 j h2 h3 h4 => ?_, fun h1 j h2 h3 h4 => ?_⟩
  · by_cases q : 2 * a + 1 = i
    · rw [show 2 * a = i - 1 by omega, show i - 1 + 1 = i by omega, ea, eb]; exact hlt
    · rw [eo _ (by omega) (by omega), eo _ (by omega) (by omega)]; exact h.pr a ha (by omega) q
  · unfold LoAt
    have := lowp_lt h1
    have hp := lowp_half j
    have hp2 := lowp_even j
    by_cases q : j = i
    · subst q
      rw [eb, eo _ (by omega) (by omega)]
      have := h.lo (j - 1) (by omega) (by omega) (by omega) (by rw [el]; omega)
      unfold LoAt at this
      rw [el] at this; exact this
    · rw [eo j h3 q]
      by_cases q2 : lowp j = i - 1
      · have g := h.lo j h1 h2 q (by omega)
        unfold LoAt at g
        rw [q2] at g ⊢
        rw [ea]; exact s.tr hlt g
      · rw [eo _ (by omega) (by omega)]; exact h.lo j h1 h2 q (by omega)
  · unfold HiAt
    have := lowp_lt h1
    have hp := lowp_half j
    have hp2 := lowp_even j
    rw [eo (lowp j + 1) (by omega) (by omega)]
    by_cases q : j = i
    · subst q
      rw [eb]
      have := h.hi (j - 1) (by omega) (by omega) (by omega) (by rw [el]; omega)
      unfold HiAt at this
      rw [el] at this; exact this
    · rw [eo j h3 q]; exact h.hi j h1 h2 q (by omega)
  · have := lowp_lt (j := i) (by omega)
    have := lowp_lt (j := i - 1) (by omega)
    rw [el, eo _ (by omega) (by omega), eo _ (by omega) (by omega), eo _ (by omega) (by omega)]
    exact h.ch (by omega) j h1 h2 (by omega)
  · omega
  · have := lowp_lt (j := i) (by omega)
    have := lowp_lt (j := i - 1) (by omega)
    rw [show lowp (2 * (i / 2)) = lowp i by unfold lowp; omega, eo _ (by omega) (by omega), eo _ (by omega) (by omega)]
    exact (h.ch (by omega) j h2 h3 h4).2
/-- Paired: the ends of a pair put in order. -/
inductive Paired (L : Nat → Nat → Prop) (n : Nat) (e : Nat → Nat) (i : Nat) : (Nat → Nat) → Nat → Prop
  | no (h1 : i % 2 = 0 → i + 1 < n → ¬ L (e (i + 1)) (e i)) (h2 : i % 2 = 1 → ¬ L (e i) (e (i - 1))) : Paired L n e i e i
  | even (he : i % 2 = 0) (hn : i + 1 < n) (hl : L (e (i + 1)) (e i)) : Paired L n e i (swf e i (i + 1)) (i + 1)
  | odd (ho : i % 2 = 1) (hl : L (e i) (e (i - 1))) : Paired L n e i (swf e (i - 1) i) (i - 1)
theorem Paired.same {k : Nat} (h : Paired L n e i e' k) (s : Sto L) (pr : Prs L n e) (hin : i < n) : e' = e ∧ k = i := by
  cases h with
  | no _ _ => exact ⟨rfl, rfl⟩
  | even he hn hl =>
    have := pr (i / 2) (by omega)
    rw [show 2 * (i / 2) = i by omega] at this
    exact absurd hl (s.asy this)
  | odd ho hl =>
    have := pr (i / 2) (by omega)
    rw [show 2 * (i / 2) = i - 1 by omega, show i - 1 + 1 = i by omega] at this
    exact absurd hl (s.asy this)
/-- The way up. -/
inductive Ups (L : Nat → Nat → Prop) : (Nat → Nat) → Nat → (Nat → Nat) → Prop
  | top {e : Nat → Nat} {i : Nat} (h : i < 2) : Ups L e i e
  | stop {e : Nat → Nat} {i : Nat} (h : 2 ≤ i) (h1 : ¬ L (e i) (e (lowp i))) (h2 : ¬ L (e (lowp i + 1)) (e i)) : Ups L e i e
  | low {e e' : Nat → Nat} {i : Nat} (h : 2 ≤ i) (h1 : L (e i) (e (lowp i))) (k : Ups L (swf e i (lowp i)) (lowp i) e') : Ups L e i e'
  | high {e e' : Nat → Nat} {i : Nat} (h : 2 ≤ i) (h1 : ¬ L (e i) (e (lowp i))) (h2 : L (e (lowp i + 1)) (e i)) (k : Ups L (swf e i (lowp i + 1)) (lowp i + 1) e') : Ups L e i e'
theorem Ups.same (h : Ups L e i e') (s : Sto L) (hl : 2 ≤ i → LoAt L e i) (hh : 2 ≤ i → HiAt L e i) : e' = e := by
  cases h with
  | top _ => rfl
  | stop _ _ _ => rfl
  | low h h1 _ => exact absurd h1 (s.asy (hl h))
  | high h _ h2 _ => exact absurd h2 (s.asy (hh h))
/-- What the way up leaves: the entry stands at q, the partner of its first place stands still; where it moved, its children are well again. -/
theorem Ups.out (h : Ups L e i e') : ∀ {pl pu : Nat}, Sto L → Inj n e → UpS L n e i pl pu → i < n → i / 2 ≤ pl → i / 2 ≤ pu →
    (i % 2 = 0 → pl = i / 2 ∨ n ≤ pl) → ((i % 2 = 1 ∨ n ≤ i + 1) → pu = i / 2 ∨ n ≤ pu) →
    Inj n e' ∧ ∃ q pl' pu', q < n ∧ e' q = e i ∧ IvE L n e' pl' pu' ∧ (pl' = pl ∨ n ≤ pl') ∧ (pu' = pu ∨ n ≤ pu') ∧
      (i % 2 = 0 → i + 1 < n → (∀ k, k % 2 = 1 → e' k = e k) ∧ q % 2 = 0 ∧ pu' = pu ∧ (q = i ∨ n ≤ pl')) ∧
      (i % 2 = 1 → (∀ k, k % 2 = 0 → e' k = e k) ∧ q % 2 = 1 ∧ pl' = pl ∧ (q = i ∨ n ≤ pu')) := by
  induction h with
  | top h =>
    intro pl pu s inj u hin hpl hpu hm1 hm2
    exact ⟨inj, _, pl, pu, hin, rfl, u.stop (fun q => by omega) (fun q => by omega), .inl rfl, .inl rfl, fun h1 _ => ⟨fun _ _ => rfl, h1, rfl, .inl rfl⟩, fun h1 => ⟨fun _ _ => rfl, h1, rfl, .inl rfl⟩⟩
  | @stop e i h h1 h2 =>
    intro pl pu s inj u hin hpl hpu hm1 hm2
    have hl := lowp_lt h
    refine ⟨inj, i, pl, pu, hin, rfl, u.stop (fun _ => ?_) (fun _ => ?_), .inl rfl, .inl rfl, fun h1 _ => ⟨fun _ _ => rfl, h1, rfl, .inl rfl⟩, fun h1 => ⟨fun _ _ => rfl, h1, rfl, .inl rfl⟩⟩
    · exact (s.tri (fun q => by have := inj (lowp i) i (by omega) hin q; omega)).resolve_right h1
    · exact (s.tri (fun q => by have := inj i (lowp i + 1) hin (by omega) q; omega)).resolve_right h2
  | @low e e' i h h1 k ih =>
    intro pl pu s inj u hin hpl hpu hm1 hm2
    have hl := lowp_lt h
    have hh := lowp_half i
    have hle := lowp_even i
    by_cases hev : i % 2 = 0
    · obtain ⟨_, u2⟩ := u.low s h hin (hm1 hev) hpu h1
      obtain ⟨inj', q, pl', pu', hq, hqe, iv, a1, a2, a3, a4⟩ := ih s (inj.sw hin (by omega)) u2 (by omega) (by omega) (by omega) (fun _ => .inr (Nat.le_refl n)) (fun q => by omega)
      obtain ⟨b1, b2, b3, b4⟩ := a3 hle (by omega)
      have hpn : n ≤ pl' := by rcases a1 with q | q <;> omega
      exact ⟨inj', q, pl', pu', hq, by rw [hqe]; exact swf_r e i (lowp i), iv, .inr hpn, a2, fun _ hi1 => ⟨fun k hk => by rw [b1 k hk]; exact swf_o e (by omega) (by omega), b2, b3, .inr hpn⟩, fun ho => by omega⟩
    · exfalso
      have h2 := u.pr (i / 2) (by omega)
      rw [show 2 * (i / 2) + 1 = i by omega] at h2
      have h3 := u.lo (2 * (i / 2)) (by omega) (by omega) (by omega) (by omega)
      unfold LoAt at h3
      rw [show lowp (2 * (i / 2)) = lowp i by unfold lowp; omega] at h3
      exact s.asy h1 (s.tr h3 h2)
  | @high e e' i h h1 h2 k ih =>
    intro pl pu s inj u hin hpl hpu hm1 hm2
    have hl := lowp_lt h
    have hh := lowp_half i
    have hle := lowp_even i
    by_cases hev : i % 2 = 1 ∨ n ≤ i + 1
    · obtain ⟨_, u2⟩ := u.high s inj h hin hpl (hm2 hev) h1 h2
      obtain ⟨inj', q, pl', pu', hq, hqe, iv, a1, a2, a3, a4⟩ := ih s (inj.sw hin (by omega)) u2 (by omega) (by omega) (by omega) (fun q => by omega) (fun _ => .inr (Nat.le_refl n))
      obtain ⟨b1, b2, b3, b4⟩ := a4 (by omega)
      have hpn : n ≤ pu' := by rcases a2 with q | q <;> omega
      exact ⟨inj', q, pl', pu', hq, by rw [hqe]; exact swf_r e i (lowp i + 1), iv, a1, .inr hpn, fun q0 q1 => by omega, fun ho => ⟨fun k hk => by rw [b1 k hk]; exact swf_o e (by omega) (by omega), b2, b3, .inr hpn⟩⟩
    · exfalso
      have h3 := u.pr (i / 2) (by omega)
      rw [show 2 * (i / 2) = i by omega] at h3
      have h4 := u.hi (i + 1) (by omega) (by omega) (by omega) (by omega)
      unfold HiAt at h4
      rw [show lowp (i + 1) = lowp i by unfold lowp; omega] at h4
      exact s.asy h2 (s.tr h3 h4)
/-- The first candidates of the way down: the end of the pair p. -/
def cand (n : Nat) (hi : Bool) (p : Nat) : Nat := if hi = true ∧ 2 * p + 1 < n then 2 * p + 1 else 2 * p
/-- A better one on the way down. -/
def Better (L : Nat → Nat → Prop) (hi : Bool) (e : Nat → Nat) (c b : Nat) : Prop := if hi = true then L (e b) (e c) else L (e c) (e b)
/-- One look at a candidate. -/
inductive Pick (L : Nat → Nat → Prop) (n : Nat) (hi : Bool) (e : Nat → Nat) (b c : Nat) : Nat → Prop
  | yes (h : c < n) (h2 : Better L hi e c b) : Pick L n hi e b c c
  | no (h : c < n → ¬ Better L hi e c b) : Pick L n hi e b c b
def Best (L : Nat → Nat → Prop) (n : Nat) (hi : Bool) (e : Nat → Nat) (i r : Nat) : Prop :=
  ∃ m, Pick L n hi e i (cand n hi (2 * (i / 2) + 1)) m ∧ Pick L n hi e m (cand n hi (2 * (i / 2) + 2)) r
/-- The pair of the place is mended. -/
inductive Mend (L : Nat → Nat → Prop) (n : Nat) (e : Nat → Nat) (b : Nat) : (Nat → Nat) → Prop
  | yes (h : 2 * (b / 2) + 1 < n) (h2 : L (e (2 * (b / 2) + 1)) (e (2 * (b / 2)))) : Mend L n e b (swf e (2 * (b / 2)) (2 * (b / 2) + 1))
  | no (h : 2 * (b / 2) + 1 < n → ¬ L (e (2 * (b / 2) + 1)) (e (2 * (b / 2)))) : Mend L n e b e
/-- The way down. -/
inductive Dns (L : Nat → Nat → Prop) (n : Nat) (hi : Bool) : (Nat → Nat) → Nat → (Nat → Nat) → Prop
  | stop {e : Nat → Nat} {i : Nat} (h : Best L n hi e i i) : Dns L n hi e i e
  | step {e e2 e' : Nat → Nat} {i b : Nat} (h : Best L n hi e i b) (hb : b ≠ i) (m : Mend L n (swf e i b) b e2) (k : Dns L n hi e2 b e') : Dns L n hi e i e'
theorem Mend.inj (h : Mend L n e b e2) (inj : Inj n e) : Inj n e2 := by
  cases h with
  | yes h h2 => exact inj.sw (by omega) (by omega)
  | no h => exact inj
theorem Best.lt (h : Best L n hi' e i b) (hin : i < n) : b < n := by
  obtain ⟨m, h1, h2⟩ := h
  cases h1 <;> cases h2 <;> assumption
/-- The best one of the lower ends. -/
theorem Best.low (h : Best L n false e i b) (s : Sto L) (inj : Inj n e) (hin : i < n) (hb : b ≠ i) :
    (b = 4 * (i / 2) + 2 ∨ b = 4 * (i / 2) + 4) ∧ b < n ∧ L (e b) (e i) ∧ ∀ c, (c = 4 * (i / 2) + 2 ∨ c = 4 * (i / 2) + 4) → c < n → c ≠ b → L (e b) (e c) := by
  obtain ⟨m, h1, h2⟩ := h
  have e1 : cand n false (2 * (i / 2) + 1) = 4 * (i / 2) + 2 := by unfold cand; simp only [Bool.false_eq_true, false_and, if_false]; omega
  have e2 : cand n false (2 * (i / 2) + 2) = 4 * (i / 2) + 4 := by unfold cand; simp only [Bool.false_eq_true, false_and, if_false]; omega
  rw [e1] at h1
  rw [e2] at h2
  cases h1 with
  | yes c1 b1 =>
    cases h2 with
    | yes c2 b2 =>
      simp only [Better, Bool.false_eq_true, if_false] at b1 b2
      exact ⟨.inr rfl, c2, s.tr b2 b1, fun c hc hcn hcb => by rcases hc with q | q <;> subst q <;> first | exact b2 | exact absurd rfl hcb⟩
    | no c2 =>
      simp only [Better, Bool.false_eq_true, if_false] at b1 c2
      refine ⟨.inl rfl, c1, b1, fun c hc hcn hcb => ?_⟩
      rcases hc with q | q
      · exact absurd q hcb
      · subst q
        exact (s.tri (fun q => by have := inj _ _ c1 hcn q; omega)).resolve_right (c2 hcn)
  | no c1 =>
    cases h2 with
    | yes c2 b2 =>
      simp only [Better, Bool.false_eq_true, if_false] at b2 c1
      refine ⟨.inr rfl, c2, b2, fun c hc hcn hcb => ?_⟩
      rcases hc with q | q
      · subst q
        exact s.tr b2 ((s.tri (fun q => by have := inj _ _ hin hcn q; omega)).resolve_right (c1 hcn))
      · exact absurd q hcb
    | no c2 => exact absurd rfl hb
theorem Best.low_stop (h : Best L n false e i i) (s : Sto L) (inj : Inj n e) (hin : i < n) : ∀ c, (c = 4 * (i / 2) + 2 ∨ c = 4 * (i / 2) + 4) → c < n → L (e i) (e c) := by
  obtain ⟨m, h1, h2⟩ := h
  have e1 : cand n false (2 * (i / 2) + 1) = 4 * (i / 2) + 2 := by unfold cand; simp only [Bool.false_eq_true, false_and, if_false]; omega
  have e2 : cand n false (2 * (i / 2) + 2) = 4 * (i / 2) + 4 := by unfold cand; simp only [Bool.false_eq_true, false_and, if_false]; omega
  obtain ⟨c1, hq1⟩ : ∃ c, c = cand n false (2 * (i / 2) + 1) := ⟨_, rfl⟩
  obtain ⟨c2, hq2⟩ : ∃ c, c = cand n false (2 * (i / 2) + 2) := ⟨_, rfl⟩
  rw [← hq1] at h1 e1
  rw [← hq2] at h2 e2
  obtain ⟨r, hr⟩ : ∃ r, r = i := ⟨_, rfl⟩
  rw [← hr] at h2
  have hm : m = i ∧ (c2 < n → ¬ Better L false e c2 i) := by
    cases h2 with
    | yes c2 b2 => omega
    | no c2 => exact ⟨hr, fun q => by have := c2 q; rw [hr] at this; exact this⟩
  obtain ⟨hm, k2⟩ := hm
  have k1 : c1 < n → ¬ Better L false e c1 i := by
    cases h1 with
    | yes c1 b1 => omega
    | no c1 => exact c1
  simp only [Better, Bool.false_eq_true, if_false] at k1 k2
  intro c hc hcn
  rw [← e1, ← e2] at hc
  rcases hc with q | q <;> subst q
  · exact (s.tri (fun q => by have := inj _ _ hin hcn q; omega)).resolve_right (k1 hcn)
  · exact (s.tri (fun q => by have := inj _ _ hin hcn q; omega)).resolve_right (k2 hcn)
/-- The best one of the upper ends. -/
theorem Best.high (h : Best L n true e i b) (s : Sto L) (inj : Inj n e) (hin : i < n) (hb : b ≠ i) :
    ∃ p, (p = 2 * (i / 2) + 1 ∨ p = 2 * (i / 2) + 2) ∧ b = cand n true p ∧ b < n ∧ L (e i) (e b) ∧
      ∀ q, (q = 2 * (i / 2) + 1 ∨ q = 2 * (i / 2) + 2) → q ≠ p → cand n true q < n → L (e (cand n true q)) (e b) := by
  obtain ⟨m, h1, h2⟩ := h
  have hc : ∀ q, cand n true q = 2 * q ∨ cand n true q = 2 * q + 1 := fun q => by unfold cand; split <;> simp only [true_or, or_true]
  have hc1 := hc (2 * (i / 2) + 1)
  have hc2 := hc (2 * (i / 2) + 2)
  cases h1 with
  | yes c1 b1 =>
    cases h2 with
    | yes c2 b2 =>
      simp only [Better, if_true] at b1 b2
      exact ⟨_, .inr rfl, rfl, c2, s.tr b1 b2, fun q hq hqp hqn => by rcases hq with q | q <;> subst q <;> first | exact b2 | exact absurd rfl hqp⟩
    | no c2 =>
      simp only [Better, if_true] at b1 c2
      refine ⟨_, .inl rfl, rfl, c1, b1, fun q hq hqp hqn => ?_⟩
      rcases hq with q | q
      · exact absurd q hqp
      · subst q
        exact (s.tri (fun q => by have := inj _ _ hqn c1 q; omega)).resolve_right (c2 hqn)
  | no c1 =>
    cases h2 with
    | yes c2 b2 =>
      simp only [Better, if_true] at b2 c1
      refine ⟨_, .inr rfl, rfl, c2, b2, fun q hq hqp hqn => ?_⟩
      rcases hq with q | q
      · subst q
        exact s.tr ((s.tri (fun q => by have := inj _ _ hqn hin q; omega)).resolve_right (c1 hqn)) b2
      · exact absurd q hqp
    | no c2 => exact absurd rfl hb
theorem Best.high_stop (h : Best L n true e i i) (s : Sto L) (inj : Inj n e) (hin : i < n) : ∀ q, (q = 2 * (i / 2) + 1 ∨ q = 2 * (i / 2) + 2) → cand n true q < n → L (e (cand n true q)) (e i) := by
  obtain ⟨m, h1, h2⟩ := h
  have hc : ∀ q, cand n true q = 2 * q ∨ cand n true q = 2 * q + 1 := fun q => by unfold cand; split <;> simp only [true_or, or_true]
  have hc1 := hc (2 * (i / 2) + 1)
  have hc2 := hc (2 * (i / 2) + 2)
  obtain ⟨c1, hq1⟩ : ∃ c, c = cand n true (2 * (i / 2) + 1) := ⟨_, rfl⟩
  obtain ⟨c2, hq2⟩ : ∃ c, c = cand n true (2 * (i / 2) + 2) := ⟨_, rfl⟩
  rw [← hq1] at h1 hc1
  rw [← hq2] at h2 hc2
  obtain ⟨r, hr⟩ : ∃ r, r = i := ⟨_, rfl⟩
  rw [← hr] at h2
  have hm : m = i ∧ (c2 < n → ¬ Better L true e c2 i) := by
    cases h2 with
    | yes c2 b2 => omega
    | no c2 => exact ⟨hr, fun q => by have := c2 q; rw [hr] at this; exact this⟩
  obtain ⟨hm, k2⟩ := hm
  have k1 : c1 < n → ¬ Better L true e c1 i := by
    cases h1 with
    | yes c1 b1 => omega
    | no c1 => exact c1
  simp only [Better, if_true] at k1 k2
  intro q hq hcn
  rcases hq with q | q <;> subst q
  · rw [← hq1] at hcn ⊢
    exact (s.tri (fun q => by have := inj _ _ hcn hin q; omega)).resolve_right (k1 hcn)
  · rw [← hq2] at hcn ⊢
    exact (s.tri (fun q => by have := inj _ _ hcn hin q; omega)).resolve_right (k2 hcn)
end
end Go.Proofs.Ytingeijodooocaa
