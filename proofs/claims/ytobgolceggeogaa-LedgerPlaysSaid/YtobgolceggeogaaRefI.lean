/- Chapter 13: the row of the reference rises by its names. No program is in sight. -/
import Derived.Test.YtobgolceggeogaaRefM
import Derived.Test.YtobgolceggeogaaRefX
import Derived.Laws.Rows
import Derived.Sort.Walk0
import Derived.WideShapes
namespace Go.Proofs.Ytobgolceggeogaa
open Go.RowKit
def ltS (a b : ByteArray) : Bool := Op.bytesLess a.toList b.toList
theorem ltS_irr (a : ByteArray) : ltS a a = false := by simp [ltS, bytesLess_eq, List.lt_irrefl]
theorem ltS_tr {a b c : ByteArray} (h : ltS a b = true) (k : ltS b c = true) : ltS a c = true := by
  simp only [ltS, bytesLess_eq, decide_eq_true_eq] at *
  exact List.lt_trans h k
theorem ltS_tri {a b : ByteArray} (h : ltS a b = false) (k : ltS b a = false) : a = b := by
  simp only [ltS, bytesLess_eq, decide_eq_false_iff_not] at *
  have := List.le_antisymm (List.not_lt.1 k) (List.not_lt.1 h)
  rw [Go.Lib.toList_data, Go.Lib.toList_data] at this
  exact Go.WideShapes.bytes_inj this
theorem gt_iff (a b : ByteArray) : gtS a b = true ↔ ltS b a = true := by
  unfold gtS
  constructor
  · intro h
    simp only [Bool.not_eq_true', Bool.or_eq_false_iff] at h
    cases k : ltS b a with
    | true => rfl
    | false =>
      have := ltS_tri h.1 k
      subst this
      simp at h
  · intro h
    have h1 : ltS a b = false := by
      cases k : ltS a b with
      | false => rfl
      | true => have := ltS_tr k h; rw [ltS_irr] at this; cases this
    have h2 : (a.toList == b.toList) = false := by
      cases k : (a.toList == b.toList) with
      | false => rfl
      | true =>
        have e : a.toList = b.toList := by simpa using k
        unfold ltS at h
        rw [e] at h
        have := ltS_irr b
        unfold ltS at this
        rw [this] at h; cases h
    have h1 : Op.bytesLess a.toList b.toList = false := h1
    rw [h1, h2]
    rfl
/-- The row rises by its names. -/
def RisR (L : List RA) : Prop := L.Pairwise (fun x y => ltS x.1 y.1 = true)
theorem RisR.nil : RisR [] := List.Pairwise.nil
theorem RisR.set {L : List RA} (h : RisR L) {k : Nat} (hk : k < L.length) (x : RA) (hx : x.1 = L[k].1) : RisR (L.set k x) := by
  unfold RisR at h ⊢
  rw [List.pairwise_iff_getElem] at h ⊢
  intro i j hi hj hij
  have hi' : i < L.length := by simpa using hi
  have hj' : j < L.length := by simpa using hj
  have e : ∀ a, (ha : a < L.length) → (ha' : a < (L.set k x).length) → ((L.set k x)[a]).1 = L[a].1 := fun a ha ha' => by
    rw [List.getElem_set]
    split
    · rename_i e; subst e; exact hx
    · rfl
  rw [e i hi' hi, e j hj' hj]
  exact h i j hi' hj' hij
theorem RisR.del {L : List RA} (h : RisR L) (k : Nat) : RisR (L.take k ++ L.drop (k + 1)) := by
  refine List.Pairwise.sublist ?_ h
  rw [← List.eraseIdx_eq_take_drop_succ]
  exact List.eraseIdx_sublist L k
theorem RisR.place {L : List RA} (h : RisR L) {k : Nat} (hk : k ≤ L.length) (x : RA) (hn : ∀ y ∈ L, y.1 ≠ x.1) (hg : ∀ y ∈ L.drop k, gtS y.1 x.1 = true) (hl : ∀ j, (hj : j < L.length) → j + 1 = k → gtS L[j].1 x.1 = false) : RisR (L.take k ++ x :: L.drop k) := by
  have h0 := h
  unfold RisR at h
  rw [← List.take_append_drop k L, List.pairwise_append] at h
  obtain ⟨h1, h2, h3⟩ := h
  unfold RisR
  rw [List.pairwise_append, List.pairwise_cons]
  have hlow : ∀ y ∈ L.take k, ltS y.1 x.1 = true := by
    intro y hy
    obtain ⟨i, hi, rfl⟩ := List.mem_iff_getElem.1 hy
    have hi' : i < k := by rw [List.length_take] at hi; omega
    have hiL : i < L.length := by omega
    rw [List.getElem_take]
    have hkL : k - 1 < L.length := by omega
    have hlast : ltS L[k - 1].1 x.1 = true := by
      have h5 := hl (k - 1) hkL (by omega)
      cases h6 : ltS L[k - 1].1 x.1 with
      | true => rfl
      | false =>
        have h7 : ltS x.1 L[k - 1].1 = false := by
          cases h8 : ltS x.1 L[k - 1].1 with
          | false => rfl
          | true => rw [(gt_iff _ _).2 h8] at h5; cases h5
        exact absurd (ltS_tri h6 h7) (hn _ (List.getElem_mem _))
    by_cases e : i = k - 1
    · subst e; exact hlast
    · exact ltS_tr (List.pairwise_iff_getElem.1 h0 i (k - 1) hiL hkL (by omega)) hlast
  refine ⟨h1, ⟨fun y hy => (gt_iff _ _).1 (hg y hy), h2⟩, fun y hy z hz => ?_⟩
  rcases List.mem_cons.1 hz with rfl | hz
  · exact hlow y hy
  · exact h3 y hy z hz
end Go.Proofs.Ytobgolceggeogaa
