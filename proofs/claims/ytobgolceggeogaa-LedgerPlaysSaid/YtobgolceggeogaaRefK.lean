/- Chapter 13's laws between the ledger and the reference's row, at lists of entries: wrong and gathered, the check of Take, what Take makes. No program is in sight. -/
import Derived.Test.YtobgolceggeogaaRefX
import Derived.Test.YtobgolceggeogaaRefR
import Derived.Test.YtobgolceggeogaaLedB
namespace Go.Proofs.Ytobgolceggeogaa
open Go.RowKit
theorem tsum_cons (e : Ent) (l : List Ent) (k : List UInt8) : tsum (e :: l) k = if k = nm e then addV e.2 (tsum l k) else tsum l k := rfl
theorem cmpV_tsum (e : Ent) (l : List Ent) (s : ByteArray) (i : Nat) : cmpV (tsum (e :: l) s.data.toList) i = (if e.1 = s then cmpV e.2 i else 0) + cmpV (tsum l s.data.toList) i := by
  rw [tsum_cons]
  by_cases h : e.1 = s
  · rw [if_pos (show s.data.toList = nm e by rw [← h]; rfl), if_pos h, cmpV_add]
  · rw [if_neg (show ¬ s.data.toList = nm e from fun e2 => h (key_eq e2).symm), if_neg h]; omega
theorem cmpV_tsum_nonneg {l : List Ent} (hv : ∀ e ∈ l, okV e.2 = true) (s : ByteArray) (i : Nat) : 0 ≤ cmpV (tsum l s.data.toList) i := by
  induction l with
  | nil => unfold tsum cmpV; split <;> exact Int.le_refl _
  | cons e l ih =>
    have h1 := ih (fun x hx => hv x (by simp [hx]))
    have h2 := cmpV_ok (hv e (by simp)) i
    rw [cmpV_tsum]
    split <;> omega
/-- The sum that stops is the sum, or both are above twice the limit. -/
theorem sumI_tsum {l : List Ent} (hv : ∀ e ∈ l, okV e.2 = true) (s : ByteArray) (i : Nat) : sumI l s i = cmpV (tsum l s.data.toList) i ∨ (2199023255552 < sumI l s i ∧ 2199023255552 < cmpV (tsum l s.data.toList) i) := by
  have key : ∀ (r : List Ent) (n : Int), (∀ e ∈ r, okV e.2 = true) → r.foldl (sumF s i) n = n + cmpV (tsum r s.data.toList) i ∨ (2199023255552 < r.foldl (sumF s i) n ∧ 2199023255552 < n + cmpV (tsum r s.data.toList) i) := by
    intro r
    induction r with
    | nil => intro n _; left; unfold tsum cmpV; split <;> (show n = n + 0; omega)
    | cons e r ih =>
      intro n hr
      have h2 := cmpV_ok (hr e (by simp)) i
      have h3 := cmpV_tsum_nonneg (fun x hx => hr x (List.mem_cons_of_mem _ hx)) s i
      rw [List.foldl_cons, cmpV_tsum]
      have h4 := ih (sumF s i n e) (fun x hx => hr x (List.mem_cons_of_mem _ hx))
      by_cases hn : n ≤ 2199023255552
      · by_cases he : e.1 = s
        · have h5 : sumF s i n e = n + cmpV e.2 i := by unfold sumF; rw [if_pos ⟨hn, he⟩]
          rw [if_pos he]
          rw [h5] at h4 ⊢
          rcases h4 with h4 | h4
          · left; omega
          · right; omega
        · have h5 : sumF s i n e = n := by unfold sumF; rw [if_neg (fun h => he h.2)]
          rw [if_neg he]
          rw [h5] at h4 ⊢
          rcases h4 with h4 | h4
          · left; omega
          · right; omega
      · have h5 : sumF s i n e = n := by unfold sumF; rw [if_neg (fun h => hn h.1)]
        have h6 : ∀ (t : List Ent) (m : Int), 2199023255552 < m → t.foldl (sumF s i) m = m := by
          intro t
          induction t with
          | nil => intro m _; rfl
          | cons x t iht =>
            intro m hm
            have : sumF s i m x = m := by unfold sumF; rw [if_neg (fun h => by omega)]
            rw [List.foldl_cons, this, iht m hm]
        right
        rw [h5, h6 r n (by omega)]
        split <;> omega
  have := key l 0 hv
  unfold sumI
  rcases this with h | h
  · left; omega
  · right; omega
theorem Row.acc {A : Acc} {n : Nat} {L : List RA} (h : Row A n L) {s : ByteArray} (hf : 0 ≤ findI L s) : ∃ j, ∃ hj : j < L.length, findI L s = j ∧ L[j].1 = s ∧ A s.data.toList = some L[j].2 ∧ accI L s = L[j] := by
  rcases look_find L s with ⟨h1, -⟩ | ⟨k, hk, h1, h2, h3⟩
  · omega
  · exact ⟨k, hk, h1, h2, by rw [h.2.2, h3], accI_at hk h1⟩
theorem Row.has {A : Acc} {n : Nat} {L : List RA} (h : Row A n L) (s : ByteArray) : (A s.data.toList).isSome = decide (0 ≤ findI L s) := by
  rw [h.2.2]
  rcases look_find L s with ⟨h1, h2⟩ | ⟨k, hk, h1, -, h3⟩
  · rw [h2, h1]; simp
  · rw [h3, h1]; simp
theorem wrong_gath {A : Acc} {n : Nat} {L : List RA} (h : Row A n L) (l : List Ent) : wrongI L l = gathE A l := by
  unfold wrongI gathE
  have e1 : l.all okE = l.all (fun e => okV e.2) := rfl
  have e2 : l.all (fun e => decide (0 ≤ findI L e.1)) = l.all (fun e => (A (nm e)).isSome) := by
    congr 1
    funext e
    exact (h.has e.1).symm
  rw [e1, e2]
theorem fitsV_all (v u : V) : fitsV v u = true ↔ ∀ q, cmpV v q ≤ cmpV u q := by
  unfold fitsV fitsB
  rw [decide_eq_true_iff]
  constructor
  · rintro ⟨h0, h1, h2, h3⟩ q
    unfold cmpV
    split <;> assumption
  · exact fun h => ⟨h 0, h 1, h 2, h 3⟩
theorem cmpV_capT (v : V) (q : Nat) : cmpV (capT v) q = min (cmpV v q) 1099511627777 := by
  unfold cmpV capT cap1
  split <;> rfl
theorem chkI_iff {L : List RA} {l : List Ent} {e : Ent} : chkI L l e = true ↔ ∀ q, q < 4 → chkQ L l e q = true := by
  constructor
  · intro h q hq
    unfold chkI at h
    simp only [Bool.and_eq_true] at h
    match q, hq with
    | 0, _ => exact h.1.1.1
    | 1, _ => exact h.1.1.2
    | 2, _ => exact h.1.2
    | 3, _ => exact h.2
  · exact chkI_all
theorem cmpV_three (v : V) {q : Nat} (h : 3 ≤ q) : cmpV v q = cmpV v 3 := by
  unfold cmpV
  match q, h with
  | 3, _ => rfl
  | q + 4, _ => rfl
/-- The check of one entry is the program's. -/
theorem chk_fits {A : Acc} {n : Nat} {L : List RA} (h : Row A n L) (hi : Inv A) {l : List Ent} (hv : l.all (fun e => okV e.2) = true) {e : Ent} (hf : 0 ≤ findI L e.1) : chkI L l e = takeFits A (sumsOf l) (nm e) := by
  obtain ⟨j, hj, h1, h2, h3, h4⟩ := h.acc hf
  obtain ⟨g1, g2⟩ := hi _ _ h3
  have hv' : ∀ x ∈ l, okV x.2 = true := fun x hx => List.all_eq_true.1 hv x hx
  have hu : usedOf A (nm e) = L[j].2.2 := by unfold usedOf nm; rw [h3]; rfl
  have hl : limOf A (nm e) = L[j].2.1 := by unfold limOf nm; rw [h3]; rfl
  rw [Bool.eq_iff_iff, chkI_iff]
  unfold takeFits
  rw [fitsV_all, sumsOf_cap hv, hu, hl]
  have key : ∀ q, chkQ L l e q = true ↔ cmpV (addV L[j].2.2 (capT (tsum l (nm e)))) q ≤ cmpV L[j].2.1 q := fun q => by
    unfold chkQ
    rw [h4, decide_eq_true_iff, cmpV_add, cmpV_capT]
    have a1 := cmpV_ok g1 q
    have a2 := cmpV_ok g2 q
    have a3 := cmpV_tsum_nonneg hv' e.1 q
    have a4 := sumI_tsum hv' e.1 q
    unfold nm
    omega
  constructor
  · intro hq q
    by_cases h9 : q < 4
    · exact (key q).1 (hq q h9)
    · rw [cmpV_three _ (by omega), cmpV_three L[j].2.1 (by omega)]
      exact (key 3).1 (hq 3 (by omega))
  · exact fun hq q _ => (key q).2 (hq q)
theorem addV_assoc (a b c : V) : addV (addV a b) c = addV a (addV b c) := by
  unfold addV
  simp only [Prod.mk.injEq]
  omega
/-- What Take makes of the row is what it makes of the ledger. -/
theorem Row.take {n : Nat} : ∀ (l : List Ent) {A : Acc} {L : List RA} (_ : Row A n L) (_ : ∀ e ∈ l, 0 ≤ findI L e.1), Row (stepA A l) n (appI L l)
  | [], A, L, h, _ => by rw [stepA_nil]; exact h
  | e :: l, A, L, h, hf => by
    obtain ⟨j, hj, h1, h2, h3, h4⟩ := h.acc (hf e (by simp))
    have h5 : appE L e = L.set j (e.1, L[j].2.1, addV L[j].2.2 e.2) := by unfold appE; rw [h1, h4, h2]; rfl
    have h6 := h.set hj (e.1, L[j].2.1, addV L[j].2.2 e.2) h2.symm
    rw [← h5] at h6
    have h7 := Row.take l h6 (fun x hx => by rw [appE_find]; exact hf x (by simp [hx]))
    have h8 : stepA (putA A e.1.data.toList (L[j].2.1, addV L[j].2.2 e.2)) l = stepA A (e :: l) := by
      funext k
      unfold stepA putA
      by_cases hk : k = e.1.data.toList
      · rw [if_pos hk, hk, h3]
        simp only [Option.map_some]
        rw [tsum_cons, if_pos (show e.1.data.toList = nm e from rfl), addV_assoc]
      · rw [if_neg hk, tsum_cons, if_neg (show ¬ k = nm e from hk)]
    rw [h8] at h7
    exact h7
end Go.Proofs.Ytobgolceggeogaa
