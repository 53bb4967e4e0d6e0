/- Fibonacci heaps, plain: no degree is great; the least of the tops is the least of all. No program is in sight. -/
import Derived.Test.YteccpjijlkjneaaFbB
namespace Go.Proofs.Yteccpjijlkjneaa
theorem countP_lt {α : Type} {p q : α → Bool} : ∀ {l : List α} {a : α}, a ∈ l → (∀ x ∈ l, p x = true → q x = true) → q a = true → p a = false → l.countP p < l.countP q
  | [], a, h, _, _, _ => nomatch h
  | x :: l, a, h, hpq, hq, hp => by
    have hle : l.countP p ≤ l.countP q := List.countP_mono_left (fun y hy => hpq y (List.mem_cons_of_mem _ hy))
    rcases List.mem_cons.1 h with rfl | h
    · rw [List.countP_cons_of_neg (by rw [hp]; decide), List.countP_cons_of_pos hq]
      omega
    · have ih := countP_lt h (fun y hy => hpq y (List.mem_cons_of_mem _ hy)) hq hp
      rw [List.countP_cons, List.countP_cons]
      have := hpq x (by simp)
      by_cases hx : p x = true
      · rw [if_pos hx, if_pos (this hx)]; omega
      · rw [if_neg hx]; split <;> omega
/-- How many are behind x; how many are ahead of it. -/
def rk (s : Hp) (x : Nat) : Nat := (List.range s.m).countP (fun y => s.th y && decide (Ltk (s.key x) x (s.key y) y))
def lw (s : Hp) (x : Nat) : Nat := (List.range s.m).countP (fun y => s.th y && decide (Ltk (s.key y) y (s.key x) x))
variable {s : Hp} {kids : Nat → List Nat} {L : List Nat}
theorem rk_lt (h : Frst s kids none L) {x c : Nat} (hx : s.th x = true) (hc : s.th c = true) (hl : s.lt x c) : rk s c < rk s x := by
  refine countP_lt (a := c) (by simp; exact h.ltm c hc) (fun y _ hy => ?_) ?_ ?_
  · simp only [Bool.and_eq_true, decide_eq_true_eq] at *
    exact ⟨hy.1, ltk_tr (h.okk x hx) (h.okk c hc) (h.okk y hy.1) hl hy.2⟩
  · simp only [Bool.and_eq_true, decide_eq_true_eq]
    exact ⟨hc, hl⟩
  · simp only [Bool.and_eq_false_iff, decide_eq_false_iff_not]
    exact .inr (ltk_irr _ _)
theorem lw_lt (h : Frst s kids none L) {x c : Nat} (hx : s.th x = true) (hc : s.th c = true) (hl : s.lt x c) : lw s x < lw s c := by
  refine countP_lt (a := x) (by simp; exact h.ltm x hx) (fun y _ hy => ?_) ?_ ?_
  · simp only [Bool.and_eq_true, decide_eq_true_eq] at *
    exact ⟨hy.1, ltk_tr (h.okk y hy.1) (h.okk x hx) (h.okk c hc) hy.2 hl⟩
  · simp only [Bool.and_eq_true, decide_eq_true_eq]
    exact ⟨hx, hl⟩
  · simp only [Bool.and_eq_false_iff, decide_eq_false_iff_not]
    exact .inr (ltk_irr _ _)
theorem Frst.ord (h : Frst s kids none L) {x c : Nat} (hx : s.th x = true) (hc : c ∈ kids x) : s.th c = true ∧ s.lt x c := ⟨(h.kth x hx c hc).1, (h.kth x hx c hc).2.2.2.resolve_left (by simp)⟩
/-- The least of the tops is the least of all. -/
theorem Frst.least (h : Frst s kids none L) {r : Nat} (hr : r ∈ L) (hm : ∀ z ∈ L, z = r ∨ s.lt r z) : ∀ (n y : Nat), lw s y < n → s.th y = true → y = r ∨ s.lt r y
  | 0, y, hn, _ => by omega
  | n + 1, y, hn, hy => by
    rcases h.cov y hy with q | ⟨p, hp, q⟩
    · exact hm y q
    · have hl := (h.ord hp q).2
      have := lw_lt h hp hy hl
      rcases Frst.least h hr hm n p (by omega) hp with rfl | e
      · exact .inr hl
      · exact .inr (ltk_tr (h.okk r (h.lth r hr).1) (h.okk p hp) (h.okk y hy) e hl)
/-- All below x, so many steps down. -/
def desc (kids : Nat → List Nat) : Nat → Nat → List Nat
  | 0, _ => []
  | f + 1, x => x :: (kids x).flatMap (desc kids f)
def fb : Nat → Nat
  | 0 => 1
  | 1 => 1
  | n + 2 => fb (n + 1) + fb n
theorem fb_step (n : Nat) : fb n ≤ fb (n + 1) := by
  match n with
  | 0 => exact Nat.le_refl _
  | n + 1 => show fb (n + 1) ≤ fb (n + 1) + fb n; omega
theorem fb_mono {a b : Nat} (h : a ≤ b) : fb a ≤ fb b := by
  induction h with
  | refl => exact Nat.le_refl _
  | step _ ih => exact Nat.le_trans ih (fb_step _)
theorem fb_sum : ∀ (k : Nat) (l : List Nat), l.length = k → (∀ t, l.countP (fun a => decide (a < t)) ≤ t) → fb (k + 1) ≤ 1 + (l.map fb).sum
  | 0, l, hl, _ => by
    have : l = [] := List.length_eq_zero_iff.1 hl
    subst this
    simp [fb]
  | k + 1, l, hl, h => by
    obtain ⟨a, ha, hak⟩ : ∃ a ∈ l, ¬ a < k := by
      apply Classical.byContradiction
      intro hc
      have h1 : l.countP (fun a => decide (a < k)) = l.length := List.countP_eq_length.2 (fun a ha => by
        simp only [decide_eq_true_eq]
        exact Classical.byContradiction fun hh => hc ⟨a, ha, hh⟩)
      have := h k
      omega
    have p : l.Perm (a :: l.erase a) := List.perm_cons_erase ha
    have ih := fb_sum k (l.erase a) (by rw [List.length_erase_of_mem ha]; omega) (fun t => by
      have h1 := h t
      rw [p.countP_eq, List.countP_cons] at h1
      omega)
    have e : (l.map fb).sum = fb a + ((l.erase a).map fb).sum := by rw [(p.map fb).sum_nat]; simp
    have := fb_mono (show k ≤ a by omega)
    show fb (k + 1) + fb k ≤ _
    omega
theorem sum_le {α : Type} {f g : α → Nat} : ∀ {l : List α}, (∀ a ∈ l, f a ≤ g a) → (l.map f).sum ≤ (l.map g).sum
  | [], _ => by simp
  | x :: l, h => by
    have h1 := h x (by simp)
    have h2 := sum_le (l := l) (fun a ha => h a (List.mem_cons_of_mem _ ha))
    simp only [List.map_cons, List.sum_cons]
    omega
theorem desc_low (h : Frst s kids none L) : ∀ (f x : Nat), s.th x = true → rk s x < f → fb ((kids x).length + 1) ≤ (desc kids f x).length
  | 0, x, _, hr => by omega
  | f + 1, x, hx, hr => by
    have hlen : (desc kids (f + 1) x).length = 1 + ((kids x).map (fun c => (desc kids f c).length)).sum := by
      simp only [desc, List.length_cons, List.length_flatMap]
      omega
    rw [hlen]
    have h1 : ((kids x).map (fun c => fb (vl s kids none c))).sum ≤ ((kids x).map (fun c => (desc kids f c).length)).sum := sum_le (fun c hc => by
      have h2 := h.ord hx hc
      have h3 := rk_lt h hx h2.1 h2.2
      refine Nat.le_trans (fb_mono ?_) (desc_low h f c h2.1 (by omega))
      unfold vl
      split <;> simp)
    have h4 := fb_sum (kids x).length ((kids x).map (vl s kids none)) (by simp) (fun t => by rw [List.countP_map]; exact h.kbn x hx t)
    rw [List.map_map] at h4
    have : ((kids x).map (fb ∘ vl s kids none)).sum = ((kids x).map (fun c => fb (vl s kids none c))).sum := rfl
    omega
theorem desc_mem (h : Frst s kids none L) : ∀ (f x y : Nat), s.th x = true → y ∈ desc kids f x → s.th y = true ∧ (y = x ∨ s.lt x y)
  | 0, x, y, _, hy => nomatch hy
  | f + 1, x, y, hx, hy => by
    simp only [desc, List.mem_cons, List.mem_flatMap] at hy
    rcases hy with rfl | ⟨c, hc, hy⟩
    · exact ⟨hx, .inl rfl⟩
    · obtain ⟨h1, h2⟩ := h.ord hx hc
      obtain ⟨h3, h4⟩ := desc_mem h f c y h1 hy
      refine ⟨h3, .inr ?_⟩
      rcases h4 with rfl | h4
      · exact h2
      · exact ltk_tr (h.okk x hx) (h.okk c h1) (h.okk y h3) h2 h4
theorem desc_up (h : Frst s kids none L) : ∀ (f c y : Nat), s.th c = true → y ∈ desc kids f c → y = c ∨ ∃ p, p ∈ desc kids f c ∧ s.th p = true ∧ y ∈ kids p
  | 0, c, y, _, hy => nomatch hy
  | f + 1, c, y, hc, hy => by
    have hy0 := hy
    simp only [desc, List.mem_cons, List.mem_flatMap] at hy
    rcases hy with rfl | ⟨c', hc', hy⟩
    · exact .inl rfl
    · right
      rcases desc_up h f c' y (h.ord hc hc').1 hy with rfl | ⟨p, h1, h2, h3⟩
      · exact ⟨c, by simp [desc], hc, hc'⟩
      · exact ⟨p, by simp only [desc, List.mem_cons, List.mem_flatMap]; exact .inr ⟨c', hc', h1⟩, h2, h3⟩
theorem desc_disj (h : Frst s kids none L) : ∀ (n y : Nat), lw s y < n → ∀ (x c c' f f' : Nat), s.th x = true → c ∈ kids x → c' ∈ kids x → y ∈ desc kids f c → y ∈ desc kids f' c' → c = c'
  | 0, y, hn, _, _, _, _, _, _, _, _, _, _ => by omega
  | n + 1, y, hn, x, c, c', f, f', hx, hc, hc', hy, hy' => by
    obtain ⟨tc, lc⟩ := h.ord hx hc
    obtain ⟨tc', lc'⟩ := h.ord hx hc'
    rcases desc_up h f c y tc hy with e | ⟨p, p1, p2, p3⟩
    · rcases desc_up h f' c' y tc' hy' with e' | ⟨p', q1, q2, q3⟩
      · rw [← e, ← e']
      · exfalso
        have := h.one_parent hx q2 hc (by rw [← e]; exact q3)
        subst this
        rcases (desc_mem h f' c' x tc' q1).2 with e2 | e2
        · exact (h.kth x hx c' hc').2.2.1 e2
        · exact ltk_asy lc' e2
    · rcases desc_up h f' c' y tc' hy' with e' | ⟨p', q1, q2, q3⟩
      · exfalso
        have := h.one_parent hx p2 hc' (by rw [← e']; exact p3)
        subst this
        rcases (desc_mem h f c x tc p1).2 with e2 | e2
        · exact (h.kth x hx c hc).2.2.1 e2
        · exact ltk_asy lc e2
      · have := h.one_parent p2 q2 p3 q3
        subst this
        have o := h.ord p2 p3
        have := lw_lt h p2 o.1 o.2
        exact desc_disj h n p (by omega) x c c' f f' hx hc hc' p1 q1
theorem desc_nodup (h : Frst s kids none L) : ∀ (f x : Nat), s.th x = true → (desc kids f x).Nodup
  | 0, _, _ => List.nodup_nil
  | f + 1, x, hx => by
    refine List.nodup_cons.2 ⟨fun hm => ?_, ?_⟩
    · obtain ⟨c, hc, hy⟩ := List.mem_flatMap.1 hm
      obtain ⟨tc, lc⟩ := h.ord hx hc
      rcases (desc_mem h f c x tc hy).2 with e | e
      · exact (h.kth x hx c hc).2.2.1 e
      · exact ltk_asy lc e
    · unfold List.Nodup
      rw [List.pairwise_flatMap]
      refine ⟨fun c hc => desc_nodup h f c (h.ord hx hc).1, ?_⟩
      refine List.Pairwise.imp_of_mem (fun {a b} ha hb hab y hy z hz e => ?_) (h.knd x hx)
      subst e
      exact hab (desc_disj h _ y (Nat.lt_succ_self _) x a b f f hx ha hb hy hz)
theorem nodup_le : ∀ (m : Nat) (l : List Nat), l.Nodup → (∀ x ∈ l, x < m) → l.length ≤ m
  | 0, l, _, h => by
    cases l with
    | nil => simp
    | cons x l => have := h x (by simp); omega
  | m + 1, l, hn, h => by
    have h1 := nodup_le m (l.erase m) (hn.erase _) (fun x hx => by
      have h2 := h x (List.mem_of_mem_erase hx)
      have h3 : x ≠ m := fun e => by subst e; exact hn.not_mem_erase hx
      omega)
    have := List.length_erase (a := m) (l := l)
    split at this <;> omega
theorem fb32 : fb 32 = 3524578 := by simp [fb]
theorem Frst.deg (h : Frst s kids none L) (hm : s.m ≤ 1048576) {x : Nat} (hx : s.th x = true) : (kids x).length < 31 := by
  apply Classical.byContradiction
  intro hc
  have h1 := desc_low h (rk s x + 1) x hx (by omega)
  have h2 := nodup_le s.m _ (desc_nodup h (rk s x + 1) x hx) (fun y hy => h.ltm y (desc_mem h _ x y hx hy).1)
  have h3 := fb_mono (show 32 ≤ (kids x).length + 1 by omega)
  rw [fb32] at h3
  omega
end Go.Proofs.Yteccpjijlkjneaa
