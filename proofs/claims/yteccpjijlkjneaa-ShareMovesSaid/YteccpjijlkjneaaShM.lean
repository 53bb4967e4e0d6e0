/- ShareMoves, plain: who takes more comes no earlier. No program is in sight but rows in memory. -/
import Derived.Test.YteccpjijlkjneaaWSx
namespace Go.Proofs.Yteccpjijlkjneaa
open Go.RowKit Go.WideShapes
variable {W : V4} {u u' x : Us} {t s s' : List Us}
theorem bef_up (hx : (sh W x).2 = 0) (hu : (sh W u).2 = 0) (hu' : (sh W u').2 = 0) (hn : u'.name = u.name) (hle : (sh W u).1.1 * (sh W u').1.2 ≤ (sh W u').1.1 * (sh W u).1.2) (h : befI W x u) : befI W x u' := by
  have ox := (sh_ok hx).2
  have oy := (sh_ok hu).2
  have oz := (sh_ok hu').2
  simp only at ox oy oz
  unfold befI at *
  have f1 := @fr_trans (sh W x).1.1 (sh W x).1.2 (sh W u).1.1 (sh W u).1.2 (sh W u').1.1 (sh W u').1.2 ox oy oz
  have f2 := @fr_trans (sh W u').1.1 (sh W u').1.2 (sh W x).1.1 (sh W x).1.2 (sh W u).1.1 (sh W u).1.2 oz ox oy
  have f3 := @fr_trans (sh W u).1.1 (sh W u).1.2 (sh W u').1.1 (sh W u').1.2 (sh W x).1.1 (sh W x).1.2 oy oz ox
  rw [hn]
  rcases h with h | ⟨h1, h2⟩
  · left; omega
  · by_cases q : (sh W x).1.1 * (sh W u').1.2 < (sh W u').1.1 * (sh W x).1.2
    · exact .inl q
    · right
      exact ⟨by omega, h2⟩
theorem idx_mono (h : SrtO W (u :: t) s) (h' : SrtO W (u' :: t) s') (hn : (nmK (u :: t)).Nodup) (hname : u'.name = u.name) (hb : ∀ x ∈ t, befI W x u → befI W x u') : (nmK s).idxOf (ky u.name) ≤ (nmK s').idxOf (ky u.name) := by
  have hn' : (nmK (u' :: t)).Nodup := by
    have e : nmK (u' :: t) = nmK (u :: t) := by simp [nmK, hname]
    rw [e]; exact hn
  obtain ⟨s1, s2, rfl, hs, hi⟩ := rest_law h hn
  obtain ⟨r1, r2, rfl, hr, hi'⟩ := rest_law h' hn'
  rw [hname] at hi'
  rw [hi, hi']
  have e := hs.unique hr
  rcases Nat.lt_or_ge r1.length s1.length with q | q
  · exfalso
    have hsl : (s1 ++ s2)[r1.length]? = some s1[r1.length] := by
      rw [List.getElem?_append_left q, List.getElem?_eq_getElem q]
    have hrl : (r1 ++ r2)[r1.length]? = some s1[r1.length] := by rw [← e]; exact hsl
    rw [List.getElem?_append_right (Nat.le_refl _), Nat.sub_self] at hrl
    have hy : s1[r1.length] ∈ r2 := List.mem_of_getElem? hrl
    have hyt : s1[r1.length] ∈ t := hs.1.mem_iff.1 (by simp)
    have p1 := h.2
    rw [List.pairwise_append] at p1
    have b1 : befI W s1[r1.length] u := p1.2.2 _ (List.getElem_mem q) _ (by simp)
    have p2 := h'.2
    rw [List.pairwise_append, List.pairwise_cons] at p2
    have b2 : befI W u' s1[r1.length] := p2.2.1.1 _ hy
    exact bef_asy (hb _ hyt b1) b2
  · exact q
theorem cmpR_le {a b c d k : Int} (h : cmpR a b c d = (k, 0)) (hk : k ≤ 0) : a * d ≤ c * b := by
  unfold cmpR at h
  split at h
  · simp at h
  · injection h with h1
    unfold cmpZ at h1
    split at h1
    · omega
    · split at h1
      · omega
      · omega
/-- With more of each it is a greater share. -/
theorem sh_more (hu : (sh W u).2 = 0) (p q r o : Int) (hp : 0 ≤ p) (hq : 0 ≤ q) (hr : 0 ≤ r) (ho : 0 ≤ o) (hf : formedB (u.a + p) (u.b + q) (u.c + r) (u.d + o) = true) :
    (sh W ⟨u.name, u.wt, u.a + p, u.b + q, u.c + r, u.d + o⟩).2 = 0 ∧ (sh W u).1.1 * (sh W ⟨u.name, u.wt, u.a + p, u.b + q, u.c + r, u.d + o⟩).1.2 ≤ (sh W ⟨u.name, u.wt, u.a + p, u.b + q, u.c + r, u.d + o⟩).1.1 * (sh W u).1.2 := by
  unfold sh at *
  obtain ⟨a', b', c', d'⟩ := W
  simp only at *
  by_cases hx : formedB u.a u.b u.c u.d = true
  · by_cases hy : formedB a' b' c' d' = true
    · by_cases hw : u.wt < 1 ∨ 1000 < u.wt
      · rw [shareR_range hx hy hw] at hu
        simp at hu
      · rw [shareR_ok hx hy (by omega) (by omega), shareR_ok hf hy (by omega) (by omega)]
        have bx := formed_bd hx
        have by' := formed_bd hy
        obtain ⟨k, hk, hc⟩ := grows1 (a := u.a) (b := u.b) (c := u.c) (d := u.d) (x := u.a + p) (y := u.b + q) (z := u.c + r) (t := u.d + o) (a' := a') (b' := b') (c' := c') (d' := d') (wt := u.wt) (by omega) (by omega) (by omega) (by omega) (by omega) (by omega) (by omega) (by omega) (by omega) (by omega) (by omega) (by omega) (by omega)
        have bf := formed_bd hf
        have p2 := best_pos (a := u.a + p) (b := u.b + q) (c := u.c + r) (d := u.d + o) (a' := a') (b' := b') (c' := c') (d' := d') (by omega) (by omega) (by omega) (by omega)
        have n2 := best_nonneg (a := u.a + p) (b := u.b + q) (c := u.c + r) (d := u.d + o) (a' := a') (b' := b') (c' := c') (d' := d') (by omega) (by omega) (by omega) (by omega)
        exact ⟨(newR_bd n2 (Int.mul_pos p2 (by omega))).2.2.2.2, cmpR_le hc hk⟩
    · rw [shareR_form (by simp [hy])] at hu
      simp at hu
  · rw [shareR_form (by simp [hx])] at hu
    simp at hu
/-- With a greater weight it is a lesser share. -/
theorem sh_weight (hu : (sh W u).2 = 0) : 1 ≤ u.wt ∧ u.wt ≤ 1000 ∧ (sh W ⟨u.name, min (u.wt + 1) 1000, u.a, u.b, u.c, u.d⟩).2 = 0 ∧ (sh W ⟨u.name, min (u.wt + 1) 1000, u.a, u.b, u.c, u.d⟩).1.1 * (sh W u).1.2 ≤ (sh W u).1.1 * (sh W ⟨u.name, min (u.wt + 1) 1000, u.a, u.b, u.c, u.d⟩).1.2 := by
  unfold sh at *
  obtain ⟨a', b', c', d'⟩ := W
  simp only at *
  by_cases hx : formedB u.a u.b u.c u.d = true
  · by_cases hy : formedB a' b' c' d' = true
    · by_cases hw : u.wt < 1 ∨ 1000 < u.wt
      · rw [shareR_range hx hy hw] at hu
        simp at hu
      · refine ⟨by omega, by omega, ?_⟩
        rw [shareR_ok hx hy (by omega) (by omega), shareR_ok hx hy (by omega) (by omega)]
        have bx := formed_bd hx
        have by' := formed_bd hy
        have p2 := best_pos (a := u.a) (b := u.b) (c := u.c) (d := u.d) (a' := a') (b' := b') (c' := c') (d' := d') (by omega) (by omega) (by omega) (by omega)
        have n2 := best_nonneg (a := u.a) (b := u.b) (c := u.c) (d := u.d) (a' := a') (b' := b') (c' := c') (d' := d') (by omega) (by omega) (by omega) (by omega)
        refine ⟨(newR_bd n2 (Int.mul_pos p2 (by omega))).2.2.2.2, ?_⟩
        by_cases hq : u.wt = 1000
        · rw [hq, show min ((1000 : Int) + 1) 1000 = 1000 by omega]
          exact Int.le_refl _
        · rw [show min (u.wt + 1) 1000 = u.wt + 1 by omega]
          obtain ⟨k, hk, hc⟩ := grows2 n2 p2 (wt := u.wt) (by omega)
          exact cmpR_le hc hk
    · rw [shareR_form (by simp [hy])] at hu
      simp at hu
  · rw [shareR_form (by simp [hx])] at hu
    simp at hu
/-- One is changed, its name is not. -/
theorem errO_turn (h0 : errO W (u :: t) = 0) (hu : (sh W u').2 = 0) (hn : u'.name = u.name) : errO W (u' :: t) = 0 := by
  obtain ⟨h1, h2⟩ := errO_zero.1 h0
  refine errO_zero.2 ⟨fun v hv => ?_, ?_⟩
  · rw [List.mem_cons] at hv
    rcases hv with rfl | hv
    · exact hu
    · exact h1 v (List.mem_cons_of_mem _ hv)
  · rw [List.map_cons, hn]
    exact h2
/-- What ShareMoves looks at. -/
theorem moves_law {ks ks' : List (List UInt8)} (h0 : errO W (u :: t) = 0) (h : OutK W (u :: t) ks) (hu : (sh W u').2 = 0) (hn : u'.name = u.name) (h' : OutK W (u' :: t) ks') :
    errO W (u' :: t) = 0 ∧ ks'.length = ks.length ∧ ky u.name ∈ ks ∧ ky u.name ∈ ks' ∧
      ((sh W u).1.1 * (sh W u').1.2 ≤ (sh W u').1.1 * (sh W u).1.2 → ks.idxOf (ky u.name) ≤ ks'.idxOf (ky u.name)) ∧
      ((sh W u').1.1 * (sh W u).1.2 ≤ (sh W u).1.1 * (sh W u').1.2 → ks'.idxOf (ky u.name) ≤ ks.idxOf (ky u.name)) := by
  have he := errO_turn h0 hu hn
  have h1 := errO_zero.1 h0
  have hsu : (sh W u).2 = 0 := h1.1 u (by simp)
  obtain ⟨q, -⟩ | ⟨-, s, hs, rfl⟩ := h
  · exact absurd h0 q
  · obtain ⟨q, -⟩ | ⟨-, s', hs', rfl⟩ := h'
    · exact absurd he q
    · refine ⟨he, by unfold nmK; rw [List.length_map, List.length_map, hs'.1.length_eq, hs.1.length_eq]; simp, ?_, ?_, fun hle => ?_, fun hle => ?_⟩
      · unfold nmK; exact List.mem_map_of_mem (f := fun u => ky u.name) (hs.1.mem_iff.2 (List.mem_cons_self (a := u) (l := t)))
      · have := List.mem_map_of_mem (f := fun u => ky u.name) (hs'.1.mem_iff.2 (List.mem_cons_self (a := u') (l := t)))
        rw [hn] at this
        exact this
      · exact idx_mono hs hs' h1.2 hn fun x hx hb => bef_up (h1.1 x (List.mem_cons_of_mem _ hx)) hsu hu hn hle hb
      · have hn' : (nmK (u' :: t)).Nodup := (errO_zero.1 he).2
        have := idx_mono hs' hs hn' hn.symm fun x hx hb => bef_up (h1.1 x (List.mem_cons_of_mem _ hx)) hu hsu hn.symm hle hb
        rw [hn] at this
        exact this
/-- Some cells of a record are stored. -/
theorem flatR_part {α : Type} {z : Nat} {f : α → Nat → Value} {l : List α} {x x' : α} {i o : Nat} {us : List Value} (hi : l[i]? = some x) (ho : o + us.length ≤ z) (hf : ∀ c, c < z → f x' c = if o ≤ c ∧ c < o + us.length then us.getD (c - o) (f x c) else f x c) :
    sets (flatR z f l) (i * z + o) us = flatR z f (l.set i x') := by
  obtain ⟨hil, -⟩ := List.getElem?_eq_some_iff.1 hi
  refine flatR_ext (by rw [sets_len, flatR_len, List.length_set]) fun j y hj c hc => ?_
  have hlen : i * z + z ≤ l.length * z := by rw [← Nat.succ_mul]; exact Nat.mul_le_mul_right z hil
  by_cases e : j = i
  · subst e
    rw [List.getElem?_set_self hil] at hj
    injection hj with hj
    subst hj
    rw [hf c hc]
    by_cases q : o ≤ c ∧ c < o + us.length
    · rw [if_pos q, show j * z + c = j * z + o + (c - o) by omega, sets_in _ _ _ _ (by omega) (by rw [flatR_len]; omega), List.getElem?_eq_getElem (by omega)]
      simp [show c - o < us.length by omega]
    · rw [if_neg q, sets_out _ _ _ _ (by omega)]
      exact flatR_at hi hc
  · rw [List.getElem?_set_ne (fun q => e q.symm)] at hj
    have h1 : j * z + c < i * z ∨ i * z + z ≤ j * z + c := by
      rcases Nat.lt_or_gt_of_ne e with q | q
      · left
        have : (j + 1) * z ≤ i * z := Nat.mul_le_mul_right z q
        rw [Nat.succ_mul] at this
        omega
      · right
        have : (i + 1) * z ≤ j * z := Nat.mul_le_mul_right z q
        rw [Nat.succ_mul] at this
        omega
    rw [sets_out _ _ _ _ (by omega)]
    exact flatR_at hj hc
end Go.Proofs.Yteccpjijlkjneaa
