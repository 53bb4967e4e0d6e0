/- DagCycles, plain: a ring of jobs. No program is in sight. -/
import Derived.Test.YtolfioiccmmifaaDgA
namespace Go.Proofs.Ytolfioiccmmifaa
/-- The first i jobs of the ring are there: f tells in which order they come. -/
structure Cyc (k : Nat) (f : Nat → Nat) (i : Nat) (G : Gr) : Prop where
  ok : G.Ok
  st : ∀ x, G.st x = 1 ∧ (∃ j, j < i ∧ f j + 1 = x) ∨ G.st x = 0 ∧ ¬ ∃ j, j < i ∧ f j + 1 = x
  par : ∀ q c, G.Par q c ↔ ∃ j, j < i ∧ c = f j + 1 ∧ q = (f j + 1) % k + 1
structure Ord (k : Nat) (f : Nat → Nat) : Prop where
  hk : 1 ≤ k ∧ k ≤ 60
  lt : ∀ j, j < k → f j < k
  inj : ∀ i j, i < k → j < k → f i = f j → i = j
variable {k i : Nat} {f : Nat → Nat} {G : Gr}
theorem Ord.onto (o : Ord k f) {x : Nat} (hx : x < k) : ∃ j, j < k ∧ f j = x := by
  have hn : ((List.range k).map f).Nodup := by
    show List.Pairwise _ _
    rw [List.pairwise_map]
    refine List.Pairwise.imp_of_mem (fun {a b} ha hb (h : a < b) e => ?_) (List.pairwise_lt_range (n := k))
    rw [List.mem_range] at ha hb
    have := o.inj a b ha hb e
    omega
  by_cases h : x ∈ (List.range k).map f
  · obtain ⟨j, hj, e⟩ := List.mem_map.1 h
    exact ⟨j, List.mem_range.1 hj, e⟩
  · exfalso
    have h2 := nodup_len (l := x :: (List.range k).map f) (m := List.range k) (List.nodup_cons.2 ⟨h, hn⟩) (fun y hy => by
      rw [List.mem_cons] at hy
      rw [List.mem_range]
      rcases hy with rfl | hy
      · exact hx
      · obtain ⟨j, hj, rfl⟩ := List.mem_map.1 hy
        exact o.lt j (List.mem_range.1 hj))
    simp at h2
    omega
theorem Cyc.start (k : Nat) (f : Nat → Nat) : Cyc k f 0 gr0 := ⟨ok0, fun x => .inr ⟨rfl, fun ⟨j, hj, _⟩ => by omega⟩, fun q c => ⟨fun h => absurd rfl h.1, fun ⟨j, hj, _⟩ => by omega⟩⟩
theorem Cyc.new (h : Cyc k f i G) (o : Ord k f) (hi : i < k) : G.st (f i + 1) = 0 := by
  rcases h.st (f i + 1) with ⟨-, j, hj, e⟩ | ⟨e, -⟩
  · have := o.inj j i (by omega) hi (by omega); omega
  · exact e
/-- How far below place p a place lies. -/
def down (k p x : Nat) : Nat := (p + k - x) % k
theorem down_lt (p x : Nat) (hk : 0 < k) : down k p x < k := Nat.mod_lt _ hk
theorem down_val {p x : Nat} (hp : p < k) (hx : x < k) : down k p x = if x ≤ p then p - x else p + k - x := by
  unfold down
  split
  · rw [show p + k - x = p - x + k by omega, Nat.add_mod_right, Nat.mod_eq_of_lt (by omega)]
  · rw [Nat.mod_eq_of_lt (by omega)]
theorem next_val {x : Nat} (hx : x < k) : (x + 1) % k = if x + 1 = k then 0 else x + 1 := by
  split
  · next e => rw [e, Nat.mod_self]
  · rw [Nat.mod_eq_of_lt (by omega)]
/-- One step from place q to the place c whose next it is: one farther down. -/
theorem down_next {p q c : Nat} (hp : p < k) (hc : c < k) (e : q = (c + 1) % k) (hcp : c ≠ p) : down k p c = down k p q + 1 := by
  have hq : q < k := by rw [e]; exact Nat.mod_lt _ (by omega)
  rw [down_val hp hc, down_val hp hq]
  rw [next_val hc] at e
  split at e <;> split <;> split <;> omega
theorem Cyc.fit (h : Cyc k f i G) (o : Ord k f) (hi : i + 1 < k) : G.Fit (f i + 1) [(f i + 1) % k + 1] := by
  have hk := o.hk
  have hfi := o.lt i (by omega)
  have hq : (f i + 1) % k < k := Nat.mod_lt _ (by omega)
  -- a place that isn't there yet, other than f i
  obtain ⟨r, hr, hrp, hrn⟩ : ∃ r, r < k ∧ r ≠ f i ∧ ¬ ∃ j, j < i ∧ f j = r := by
    refine ⟨f (i + 1), o.lt _ hi, fun e => ?_, fun ⟨j, hj, e⟩ => ?_⟩
    · have := o.inj (i + 1) i hi (by omega) e; omega
    · have := o.inj j (i + 1) (by omega) hi e; omega
  have hd0 : 1 ≤ down k (f i) r := by
    rw [down_val hfi hr]
    split <;> omega
  have hdr := down_lt (k := k) (f i) r (by omega)
  have inv : ∀ b, G.Rch (f i + 1) b → ∃ x, b = x + 1 ∧ x < k ∧ x ≠ f i ∧ down k (f i) x < down k (f i) r := by
    intro b hb
    have stp : ∀ x c, x < k → down k (f i) x < down k (f i) r → G.Par (x + 1) c → ∃ z, c = z + 1 ∧ z < k ∧ z ≠ f i ∧ down k (f i) z < down k (f i) r := by
      intro x c hx hd hp
      obtain ⟨j, hj, e1, e2⟩ := (h.par _ _).1 hp
      have hfj := o.lt j (by omega)
      have hne : f j ≠ f i := fun e => by have := o.inj j i (by omega) (by omega) e; omega
      have e3 : x = (f j + 1) % k := by omega
      have hdn := down_next hfi hfj e3 hne
      refine ⟨f j, e1, hfj, hne, ?_⟩
      by_cases q : down k (f i) (f j) = down k (f i) r
      · exfalso
        apply hrn
        refine ⟨j, hj, ?_⟩
        rw [down_val hfi hfj, down_val hfi hr] at q
        split at q <;> split at q <;> omega
      · omega
    induction hb with
    | one q =>
      refine stp (f i) _ hfi ?_ q
      have : down k (f i) (f i) = 0 := by rw [down_val hfi hfi, if_pos (Nat.le_refl _)]; omega
      omega
    | step _ q ih =>
      obtain ⟨x, rfl, hx, -, hd⟩ := ih
      exact stp x _ hx hd q
  refine ⟨⟨by omega, by omega⟩, h.new o (by omega), by simp, fun p hp => ?_, fun p hp => ?_, fun p hp => ?_⟩
  · rw [List.mem_singleton] at hp; omega
  · rw [List.mem_singleton] at hp
    subst hp
    constructor
    · rw [next_val hfi]; split <;> omega
    · intro hr2
      obtain ⟨x, e, hx, hxp, hd⟩ := inv _ hr2
      have e2 : x = (f i + 1) % k := by omega
      have : down k (f i) x = k - 1 := by
        rw [down_val hfi hx]
        rw [next_val hfi] at e2
        split at e2 <;> split <;> omega
      omega
  · rw [List.mem_singleton] at hp
    rcases h.st p with ⟨e, -⟩ | ⟨e, -⟩ <;> omega
theorem Cyc.next (h : Cyc k f i G) (o : Ord k f) (hi : i + 1 < k) : Cyc k f (i + 1) (G.add (f i + 1) [(f i + 1) % k + 1]) := by
  have hF := h.fit o hi
  refine ⟨h.ok.add hF, fun x => ?_, fun q c => ?_⟩
  · show upd G.st (f i + 1) 1 x = 1 ∧ _ ∨ upd G.st (f i + 1) 1 x = 0 ∧ _
    by_cases e : x = f i + 1
    · rw [e, upd_same]
      exact .inl ⟨rfl, i, by omega, rfl⟩
    · rw [upd_ne _ _ e]
      rcases h.st x with ⟨e1, j, hj, e2⟩ | ⟨e1, e2⟩
      · exact .inl ⟨e1, j, by omega, e2⟩
      · refine .inr ⟨e1, fun ⟨j, hj, e3⟩ => ?_⟩
        by_cases q : j = i
        · subst q; exact e e3.symm
        · exact e2 ⟨j, by omega, e3⟩
  · rw [add_par h.ok hF.ab, h.par, List.mem_singleton]
    constructor
    · rintro (⟨j, hj, e⟩ | e)
      · exact ⟨j, by omega, e⟩
      · exact ⟨i, by omega, e⟩
    · rintro ⟨j, hj, e⟩
      by_cases q : j = i
      · subst q; exact .inr e
      · exact .inl ⟨j, by omega, e⟩
/-- The last one closes the ring. -/
theorem Cyc.last (h : Cyc k f i G) (o : Ord k f) (hi : i + 1 = k) : (f i + 1) % k + 1 = f i + 1 ∨ G.Rch (f i + 1) ((f i + 1) % k + 1) := by
  have hk := o.hk
  have hfi := o.lt i (by omega)
  by_cases h1 : k = 1
  · left
    subst h1
    have : f i = 0 := by omega
    rw [this]
  · right
    have all : ∀ x, x < k → x ≠ f i → ∃ j, j < i ∧ f j = x := fun x hx hne => by
      obtain ⟨j, hj, e⟩ := o.onto hx
      refine ⟨j, ?_, e⟩
      have : j ≠ i := fun q => hne (by rw [← e, q])
      omega
    -- walk down m places
    have key : ∀ m, 1 ≤ m → m < k → G.Rch (f i + 1) ((f i + k - m) % k + 1) := by
      intro m hm
      induction m with
      | zero => omega
      | succ m ih =>
        intro hmk
        have hc : (f i + k - (m + 1)) % k < k := Nat.mod_lt _ (by omega)
        have cval : (f i + k - (m + 1)) % k = if m + 1 ≤ f i then f i - (m + 1) else f i + k - (m + 1) := by
          split
          · rw [show f i + k - (m + 1) = f i - (m + 1) + k by omega, Nat.add_mod_right, Nat.mod_eq_of_lt (by omega)]
          · rw [Nat.mod_eq_of_lt (by omega)]
        obtain ⟨j, hj, ej⟩ := all _ hc (by rw [cval]; split <;> omega)
        have hpar : ∀ q, q = (f j + 1) % k + 1 → G.Par q ((f i + k - (m + 1)) % k + 1) := fun q hq => (h.par _ _).2 ⟨j, hj, by rw [ej], hq⟩
        by_cases hm0 : m = 0
        · subst hm0
          refine .one (hpar _ ?_)
          rw [ej, next_val hc, cval]
          split <;> split <;> omega
        · have mval : (f i + k - m) % k = if m ≤ f i then f i - m else f i + k - m := by
            split
            · rw [show f i + k - m = f i - m + k by omega, Nat.add_mod_right, Nat.mod_eq_of_lt (by omega)]
            · rw [Nat.mod_eq_of_lt (by omega)]
          refine .step (ih (by omega) (by omega)) (hpar _ ?_)
          rw [ej, next_val hc, cval, mval]
          split <;> split <;> split <;> omega
    have := key (k - 1) (by omega) (by omega)
    rw [show f i + k - (k - 1) = f i + 1 by omega] at this
    exact this
/-- The order in which they come. -/
def ordF (k t : Nat) (j : Nat) : Nat := if k % 7 = 0 then (j + t) % k else (j * 7 + t) % k
theorem cop : ∀ k, k < 61 → k % 7 ≠ 0 → Nat.gcd k 7 = 1 := by decide
theorem ordF_ord {k t : Nat} (hk : 1 ≤ k ∧ k ≤ 60) : Ord k (ordF k t) := by
  refine ⟨hk, fun j _ => ?_, fun i j hi hj e => ?_⟩
  · unfold ordF
    split <;> exact Nat.mod_lt _ (by omega)
  · have key : ∀ a b, a < k → b < k → a ≤ b → ordF k t a = ordF k t b → a = b := by
      intro a b ha hb hab e
      unfold ordF at e
      split at e
      · have h1 : (a + t) % k = ((a + t) + (b - a)) % k := by rw [e]; congr 1; omega
        have h2 : k ∣ (b - a) := by
          have := Nat.sub_mod_eq_zero_of_mod_eq h1.symm
          rw [show a + t + (b - a) - (a + t) = b - a by omega] at this
          exact Nat.dvd_of_mod_eq_zero this
        have := Nat.eq_zero_of_dvd_of_lt h2 (by omega)
        omega
      · next h7 =>
        have h2 : k ∣ (b - a) * 7 := by
          have := Nat.sub_mod_eq_zero_of_mod_eq e.symm
          rw [show b * 7 + t - (a * 7 + t) = (b - a) * 7 by omega] at this
          exact Nat.dvd_of_mod_eq_zero this
        have h3 : Nat.Coprime k 7 := cop k (by omega) h7
        have h4 := h3.dvd_of_dvd_mul_right h2
        have := Nat.eq_zero_of_dvd_of_lt h4 (by omega)
        omega
    rcases Nat.le_total i j with q | q
    · exact key i j hi hj q e
    · exact (key j i hj hi q e.symm).symm
end Go.Proofs.Ytolfioiccmmifaa
