/- Chapter 13's laws between the ledger and the reference's row, at lists of entries: the check of Give, what Give makes; both calls' answers together. No program is in sight. -/
import Derived.Test.YtobgolceggeogaaRefK
import Derived.Test.YtobgolceggeogaaRefY
namespace Go.Proofs.Ytobgolceggeogaa
open Go.RowKit
theorem chkJ_iff {L : List RA} {l : List Ent} {e : Ent} : chkJ L l e = true ↔ ∀ q, q < 4 → chkG L l e q = true := by
  constructor
  · intro h q hq
    unfold chkJ at h
    simp only [Bool.and_eq_true] at h
    match q, hq with
    | 0, _ => exact h.1.1.1
    | 1, _ => exact h.1.1.2
    | 2, _ => exact h.1.2
    | 3, _ => exact h.2
  · exact chkJ_all
theorem chk_gives {A : Acc} {n : Nat} {L : List RA} (h : Row A n L) (hi : Inv A) {l : List Ent} (hv : l.all (fun e => okV e.2) = true) {e : Ent} (hf : 0 ≤ findI L e.1) : chkJ L l e = giveFits A (sumsOf l) (nm e) := by
  obtain ⟨j, hj, h1, h2, h3, h4⟩ := h.acc hf
  obtain ⟨g1, g2⟩ := hi _ _ h3
  have hv' : ∀ x ∈ l, okV x.2 = true := fun x hx => List.all_eq_true.1 hv x hx
  have hu : usedOf A (nm e) = L[j].2.2 := by unfold usedOf nm; rw [h3]; rfl
  rw [Bool.eq_iff_iff, chkJ_iff]
  unfold giveFits
  rw [fitsV_all, sumsOf_cap hv, hu]
  have key : ∀ q, chkG L l e q = true ↔ cmpV (capT (tsum l (nm e))) q ≤ cmpV L[j].2.2 q := fun q => by
    unfold chkG
    rw [h4, decide_eq_true_iff, cmpV_capT]
    have a2 := cmpV_ok g2 q
    have a4 := sumI_tsum hv' e.1 q
    unfold nm
    omega
  constructor
  · intro hq q
    by_cases h9 : q < 4
    · exact (key q).1 (hq q h9)
    · rw [cmpV_three _ (by omega), cmpV_three L[j].2.2 (by omega)]
      exact (key 3).1 (hq 3 (by omega))
  · exact fun hq q _ => (key q).2 (hq q)
/-- The ledger behind a Give that is granted. -/
def stepG (A : Acc) (l : List Ent) : Acc := fun k => (A k).map (fun a => (a.1, subV a.2 (tsum l k)))
theorem subV_zero (v : V) : subV v zeroV = v := by
  unfold subV zeroV
  simp
theorem stepG_nil (A : Acc) : stepG A [] = A := by
  funext k
  unfold stepG
  cases A k with
  | none => rfl
  | some a => simp [tsum, subV_zero]
theorem subV_subV (a b c : V) : subV (subV a b) c = subV a (addV b c) := by
  unfold subV addV
  simp only [Prod.mk.injEq]
  omega
/-- What Give makes of the row is what it makes of the ledger. -/
theorem Row.give {n : Nat} : ∀ (l : List Ent) {A : Acc} {L : List RA} (_ : Row A n L) (_ : ∀ e ∈ l, 0 ≤ findI L e.1), Row (stepG A l) n (givI L l)
  | [], A, L, h, _ => by rw [stepG_nil]; exact h
  | e :: l, A, L, h, hf => by
    obtain ⟨j, hj, h1, h2, h3, h4⟩ := h.acc (hf e (by simp))
    have h5 : givE L e = L.set j (e.1, L[j].2.1, subV L[j].2.2 e.2) := by unfold givE; rw [h1, h4, h2]; rfl
    have h6 := h.set hj (e.1, L[j].2.1, subV L[j].2.2 e.2) h2.symm
    rw [← h5] at h6
    have h7 := Row.give l h6 (fun x hx => by rw [givE_find]; exact hf x (by simp [hx]))
    have h8 : stepG (putA A e.1.data.toList (L[j].2.1, subV L[j].2.2 e.2)) l = stepG A (e :: l) := by
      funext k
      unfold stepG putA
      by_cases hk : k = e.1.data.toList
      · rw [if_pos hk, hk, h3]
        simp only [Option.map_some]
        rw [tsum_cons, if_pos (show e.1.data.toList = nm e from rfl), subV_subV]
      · rw [if_neg hk, tsum_cons, if_neg (show ¬ k = nm e from hk)]
    rw [h8] at h7
    exact h7
theorem giveR_step {A : Acc} {l : List Ent} (hi : Inv A) (h : giveE A l = 0) : giveR A l = stepG A l := by
  have h0 := h
  unfold giveE at h
  split at h
  · rename_i hg
    split at h
    · rename_i hall
      have hv := gath_form hg
      funext k
      unfold giveR
      rw [if_pos h0]
      unfold giveA stepG
      cases hs : sumsOf l k with
      | none =>
        simp only
        rw [tsum_none hs]
        cases A k with
        | none => rfl
        | some a => simp [subV_zero]
      | some s =>
        simp only
        obtain ⟨e, he, rfl⟩ := sums_from hs
        obtain ⟨a, ha⟩ := gath_acct hg hs
        have hfit := List.all_eq_true.1 hall e he
        have hcap := sumsOf_cap (l := l) hv (nm e)
        rw [hs] at hcap
        have hcap : s = capT (tsum l (nm e)) := hcap
        unfold giveFits at hfit
        rw [hs, fitsV_all] at hfit
        have hu : usedOf A (nm e) = a.2 := by unfold usedOf; rw [ha]; rfl
        rw [hu] at hfit
        obtain ⟨-, g2⟩ := hi _ _ ha
        have hle : ∀ q, cmpV s q ≤ 1099511627776 := fun q => by
          have h1 : cmpV s q ≤ cmpV a.2 q := hfit q
          have := cmpV_ok g2 q
          omega
        rw [capT_low hcap.symm ⟨hle 0, hle 1, hle 2, hle 3⟩, ha]
    · omega
  · rename_i hg; exact absurd h hg
end Go.Proofs.Ytobgolceggeogaa
