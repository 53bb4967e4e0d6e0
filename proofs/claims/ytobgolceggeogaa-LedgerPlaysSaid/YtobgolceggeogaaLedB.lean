/- Plain law of chapter 13's LedgerBack: what is taken can be given back, one by one or at once, and the accounts are as they were. No program is in sight. -/
import Derived.Test.YtobgolceggeogaaLedS
namespace Go.Proofs.Ytobgolceggeogaa
def okE' (e : Ent) : Bool := okV e.2
def capT (v : V) : V := (cap1 v.1, cap1 v.2.1, cap1 v.2.2.1, cap1 v.2.2.2)
def tsum (l : List Ent) (k : List UInt8) : V := match l with
  | [] => zeroV
  | e :: l => if k = nm e then addV e.2 (tsum l k) else tsum l k
def nonneg (v : V) : Prop := 0 ≤ v.1 ∧ 0 ≤ v.2.1 ∧ 0 ≤ v.2.2.1 ∧ 0 ≤ v.2.2.2
theorem okV_nonneg {v : V} (h : okV v = true) : nonneg v := by
  obtain ⟨h0, h1, h2, h3⟩ := (okV_iff _).1 h
  exact ⟨h0.1, h1.1, h2.1, h3.1⟩
theorem tsum_nonneg : ∀ (l : List Ent) (k : List UInt8), (∀ e ∈ l, okV e.2 = true) → nonneg (tsum l k)
  | [], k, _ => by simp [tsum, nonneg, zeroV]
  | e :: l, k, h => by
    have h1 := tsum_nonneg l k (fun x hx => h x (by simp [hx]))
    have h2 := okV_nonneg (h e (by simp))
    unfold tsum
    split
    · unfold nonneg addV at *; simp only; omega
    · exact h1
theorem addV_zero (v : V) : addV v zeroV = v := by
  obtain ⟨a, b, c, d⟩ := v
  simp [addV, zeroV]
theorem zero_addV (v : V) : addV zeroV v = v := by
  obtain ⟨a, b, c, d⟩ := v
  simp [addV, zeroV]
/-- The sums are the true ones, held at one above the limit. -/
theorem sums_cap : ∀ (l : List Ent) (S : Sums) (k : List UInt8), SumsOk S → (∀ e ∈ l, okV e.2 = true) → ((l.foldl sumStep S) k).getD zeroV = capT (addV ((S k).getD zeroV) (tsum l k))
  | [], S, k, hS, _ => by
    have h := hS.getD k
    rw [show tsum [] k = zeroV from rfl, addV_zero, List.foldl_nil]
    generalize (S k).getD zeroV = v at h
    obtain ⟨a, b, c, d⟩ := v
    unfold ok2 at h
    dsimp only at h
    simp only [capT, cap1, Prod.mk.injEq]
    omega
  | e :: l, S, k, hS, h => by
    have he := h e (by simp)
    have h1 := sums_cap l (sumStep S e) k (hS.step e he) (fun x hx => h x (by simp [hx]))
    have h2 := tsum_nonneg l k (fun x hx => h x (by simp [hx]))
    rw [List.foldl_cons, h1, show tsum (e :: l) k = if k = nm e then addV e.2 (tsum l k) else tsum l k from rfl]
    by_cases hk : k = nm e
    · rw [if_pos hk]
      rw [show sumStep S e k = some (capV ((S (nm e)).getD zeroV) e.2) by rw [hk]; exact putA_same _ _ _, ← hk]
      generalize (S k).getD zeroV = v
      generalize tsum l k = t at h2
      obtain ⟨a, b, c, d⟩ := v
      obtain ⟨_, x0, x1, x2, x3⟩ := e
      obtain ⟨t0, t1, t2, t3⟩ := t
      unfold nonneg at h2
      simp only [Option.getD_some, capV, capT, addV, cap1, Prod.mk.injEq] at h2 ⊢
      omega
    · rw [if_neg hk, show sumStep S e k = S k from putA_other _ _ hk]
theorem sumsOf_cap {l : List Ent} (h : l.all okE' = true) (k : List UInt8) : ((sumsOf l) k).getD zeroV = capT (tsum l k) := by
  have := sums_cap l noA k sumsOk_none (fun e he => List.all_eq_true.1 h e he)
  rw [show (noA k).getD zeroV = zeroV from rfl, zero_addV] at this
  exact this
theorem tsum_none {l : List Ent} {k : List UInt8} (h : sumsOf l k = none) : tsum l k = zeroV := by
  have : ∀ e ∈ l, nm e ≠ k := fun e he hk => by
    have := sums_mem he
    rw [hk, h] at this
    cases this
  clear h
  induction l with
  | nil => rfl
  | cons e l ih =>
    unfold tsum
    rw [if_neg (fun hk => this e (by simp) hk.symm)]
    exact ih (fun x hx => this x (by simp [hx]))
theorem capT_low {v l : V} (h : capT v = l) (hl : l.1 ≤ 1099511627776 ∧ l.2.1 ≤ 1099511627776 ∧ l.2.2.1 ≤ 1099511627776 ∧ l.2.2.2 ≤ 1099511627776) : v = l := by
  obtain ⟨a, b, c, d⟩ := v
  obtain ⟨a', b', c', d'⟩ := l
  simp only [capT, cap1, Prod.mk.injEq] at h hl ⊢
  omega
/-- The accounts with the entries from the j-th on still to be given back. -/
def stepA (A : Acc) (l : List Ent) : Acc := fun k => (A k).map (fun a => (a.1, addV a.2 (tsum l k)))
theorem stepA_nil (A : Acc) : stepA A [] = A := by
  funext k
  unfold stepA
  cases A k with
  | none => rfl
  | some a => simp [tsum, addV_zero]
theorem stepA_some {A : Acc} {l : List Ent} {k : List UInt8} {a : Acct} (h : A k = some a) : stepA A l k = some (a.1, addV a.2 (tsum l k)) := by simp [stepA, h]
/-- Where Take says OK. -/
structure Taken (A : Acc) (l : List Ent) : Prop where
  inv : Inv A
  form : l.all okE' = true
  acct : ∀ e ∈ l, (A (nm e)).isSome = true
  fits : ∀ k v, sumsOf l k = some v → takeFits A (sumsOf l) k = true
theorem taken_of {A : Acc} {l : List Ent} (hi : Inv A) (h : takeE A l = 0) : Taken A l := by
  unfold takeE at h
  split at h
  · rename_i hg
    split at h
    · rename_i hall
      refine ⟨hi, gath_form hg, fun e he => ?_, fun k v hk => ?_⟩
      · obtain ⟨s, hs⟩ := Option.isSome_iff_exists.1 (sums_mem he)
        obtain ⟨a, ha⟩ := gath_acct hg hs
        rw [ha]; rfl
      · obtain ⟨e, he, rfl⟩ := sums_from hk
        exact List.all_eq_true.1 hall e he
    · omega
  · rename_i hg; exact absurd h hg
theorem Taken.gath {A : Acc} {l : List Ent} (h : Taken A l) : gathE A l = 0 := by
  unfold gathE
  rw [if_pos (show (l.all fun e => okV e.2) = true from h.form), if_pos (List.all_eq_true.2 h.acct)]
theorem Taken.takes {A : Acc} {l : List Ent} (h : Taken A l) : takeE A l = 0 := by
  unfold takeE
  rw [if_pos h.gath, if_pos]
  rw [List.all_eq_true]
  intro e he
  obtain ⟨s, hs⟩ := Option.isSome_iff_exists.1 (sums_mem he)
  exact h.fits _ _ hs
/-- A sum that fits is the true one. -/
theorem Taken.sum {A : Acc} {l : List Ent} (h : Taken A l) {k : List UInt8} {v : V} (hk : sumsOf l k = some v) : v = tsum l k := by
  have h1 := sumsOf_cap h.form k
  have h2 := h.fits k v hk
  obtain ⟨a, ha⟩ := gath_acct h.gath hk
  obtain ⟨hl, hu⟩ := h.inv _ _ ha
  unfold takeFits usedOf limOf at h2
  rw [hk, ha] at h2
  rw [hk] at h1
  simp only [Option.getD_some] at h1 h2
  have h3 := okV_nonneg hu
  obtain ⟨l0, l1, l2, l3⟩ := (okV_iff _).1 hl
  unfold fitsV fitsB at h2
  have h2 := of_decide_eq_true h2
  unfold nonneg at h3
  simp only [addV] at h2
  exact (capT_low h1.symm (by omega)).symm
theorem Taken.takeR {A : Acc} {l : List Ent} (h : Taken A l) : takeR A l = stepA A l := by
  unfold Proofs.Ytobgolceggeogaa.takeR
  rw [if_pos h.takes]
  funext k
  unfold takeA stepA
  cases hk : sumsOf l k with
  | none => 
    simp only
    rw [tsum_none hk]
    cases A k with
    | none => rfl
    | some a => simp [addV_zero]
  | some v => simp only; rw [h.sum hk]
theorem subV_addV (u s : V) : subV (addV u s) s = u := by
  obtain ⟨a, b, c, d⟩ := u
  simp only [subV, addV, Prod.mk.injEq]
  omega
theorem fits_add {u s : V} (h : nonneg u) : fitsV s (addV u s) = true := by
  unfold nonneg at h
  unfold fitsV fitsB
  simp only [addV]
  exact decide_eq_true (by omega)
/-- At once. -/
theorem Taken.gives {A : Acc} {l : List Ent} (h : Taken A l) : giveE (stepA A l) l = 0 ∧ giveR (stepA A l) l = A := by
  have hg : gathE (stepA A l) l = 0 := by
    unfold gathE
    rw [if_pos (show (l.all fun e => okV e.2) = true from h.form), if_pos]
    rw [List.all_eq_true]
    intro e he
    have := h.acct e he
    simpa [stepA] using this
  have hf : ∀ k, (sumsOf l k).isSome = true → giveFits (stepA A l) (sumsOf l) k = true := by
    intro k hk
    obtain ⟨v, hv⟩ := Option.isSome_iff_exists.1 hk
    obtain ⟨a, ha⟩ := gath_acct h.gath hv
    unfold giveFits usedOf
    rw [hv, stepA_some ha]
    simp only [Option.getD_some]
    rw [h.sum hv]
    exact fits_add (okV_nonneg (h.inv _ _ ha).2)
  obtain ⟨h1, h2⟩ := giveE_all hg hf
  refine ⟨h1, ?_⟩
  rw [h2]
  funext k
  unfold giveA
  cases hk : sumsOf l k with
  | none =>
    simp only [stepA]
    rw [tsum_none hk]
    cases A k with
    | none => rfl
    | some a => simp [addV_zero]
  | some v =>
    obtain ⟨a, ha⟩ := gath_acct h.gath hk
    simp only
    rw [stepA_some ha, ha, h.sum hk]
    simp [subV_addV]
/-- One of them. -/
theorem give_one {A : Acc} {l : List Ent} {e : Ent} (hi : Inv A) (he : okV e.2 = true) (hl : ∀ x ∈ l, okV x.2 = true) (hA : (A (nm e)).isSome = true) :
    giveE (stepA A (e :: l)) [e] = 0 ∧ giveR (stepA A (e :: l)) [e] = stepA A l := by
  have hs : ∀ k, sumsOf [e] k = if k = nm e then some e.2 else none := by
    intro k
    unfold sumsOf
    simp only [List.foldl_cons, List.foldl_nil, sumStep]
    by_cases hk : k = nm e
    · subst hk
      rw [putA_same, if_pos rfl]
      obtain ⟨h0, h1, h2, h3⟩ := (okV_iff _).1 he
      obtain ⟨_, x0, x1, x2, x3⟩ := e
      simp only [noA, Option.getD_none, zeroV, capV, cap1, Option.some.injEq, Prod.mk.injEq] at *
      omega
    · rw [putA_other _ _ hk, if_neg hk]; rfl
  obtain ⟨a, ha⟩ := Option.isSome_iff_exists.1 hA
  have hg : gathE (stepA A (e :: l)) [e] = 0 := by
    unfold gathE
    rw [if_pos (by simp [he]), if_pos]
    simp [stepA_some ha]
  have ht : tsum (e :: l) (nm e) = addV e.2 (tsum l (nm e)) := by simp [tsum]
  have hnn := tsum_nonneg l (nm e) hl
  have hu := okV_nonneg (hi _ _ ha).2
  have hf : ∀ k, (sumsOf [e] k).isSome = true → giveFits (stepA A (e :: l)) (sumsOf [e]) k = true := by
    intro k hk
    have hk2 : k = nm e := by
      rw [hs] at hk
      split at hk
      · assumption
      · cases hk
    subst hk2
    unfold giveFits usedOf
    rw [hs, if_pos rfl, stepA_some ha, ht]
    simp only [Option.getD_some]
    unfold fitsV fitsB
    unfold nonneg at hnn hu
    simp only [addV]
    exact decide_eq_true (by omega)
  obtain ⟨h1, h2⟩ := giveE_all hg hf
  refine ⟨h1, ?_⟩
  rw [h2]
  funext k
  unfold giveA
  rw [hs]
  by_cases hk : k = nm e
  · subst hk
    rw [if_pos rfl]
    simp only
    rw [stepA_some ha, stepA_some ha, ht]
    simp only [Option.map_some, Option.some.injEq, Prod.mk.injEq, true_and]
    generalize tsum l (nm e) = t
    obtain ⟨t0, t1, t2, t3⟩ := t
    simp only [subV, addV, Prod.mk.injEq]
    omega
  · rw [if_neg hk]
    simp only [stepA]
    rw [show tsum (e :: l) k = tsum l k by simp [tsum, hk]]
end Go.Proofs.Ytobgolceggeogaa
