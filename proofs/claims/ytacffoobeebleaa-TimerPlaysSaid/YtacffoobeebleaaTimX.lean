/- Plain law of the reference's insertion of chapter 10. -/
import Derived.Test.YtacffoobeebleaaTimI
namespace Go.Proofs.Ytacffoobeebleaa
theorem hole_left {l : List Al} {j i : Nat} {y : Al} (hi : i < j ∧ j ≤ l.length) : el (l.take j ++ y :: l.drop j) i = el l i := by
  rw [el_append_left (by simp; omega), el_take hi.1]
theorem hole_set {l : List Al} {j : Nat} {y x : Al} (hj : j ≤ l.length) : (l.take j ++ y :: l.drop j).set j x = l.take j ++ x :: l.drop j := by
  rw [List.set_append_right _ _ (by simp; omega)]
  simp [show min j l.length = j by omega]
theorem hole_move {l : List Al} {p : Nat} {y : Al} (hp : p < l.length) : (l.take (p + 1) ++ y :: l.drop (p + 1)).set (p + 1) (el l p) = l.take p ++ el l p :: l.drop p := by
  rw [hole_set (by omega), el_eq hp]
  have h1 : l.take (p + 1) = l.take p ++ [l[p]] := by rw [List.take_add_one, List.getElem?_eq_getElem hp]; rfl
  have h2 : l.drop p = l[p] :: l.drop (p + 1) := List.drop_eq_getElem_cons hp
  rw [h1, h2, List.append_assoc]
  rfl
/-- The place is found: all ahead of it are less, all behind it greater. -/
def AtExit (l : List Al) (j : Nat) (x : Al) : Prop := (∀ i, i < j → ltA (el l i) x = true) ∧ ∀ i, j ≤ i → i < l.length → ltA x (el l i) = true
theorem exit_sorted {l : List Al} {j : Nat} {x : Al} (hs : Sorted l) (hj : j ≤ l.length) (h : AtExit l j x) : Sorted (l.take j ++ x :: l.drop j) := by
  show List.Pairwise _ _
  rw [List.pairwise_append]
  refine ⟨hs.sublist (List.take_sublist j l), List.pairwise_cons.2 ⟨fun y hy => ?_, hs.sublist (List.drop_sublist j l)⟩, fun y hy z hz => ?_⟩
  · obtain ⟨i, hi, e⟩ := List.mem_iff_getElem.1 hy
    rw [List.length_drop] at hi
    rw [List.getElem_drop, ← el_eq (by omega)] at e
    rw [← e]
    exact h.2 _ (by omega) (by omega)
  · obtain ⟨i, hi, rfl⟩ := mem_el hy
    have hij : i < j := by simp at hi; omega
    rw [el_take hij]
    rcases List.mem_cons.1 hz with rfl | hz
    · exact h.1 i hij
    · obtain ⟨i', hi', e⟩ := List.mem_iff_getElem.1 hz
      rw [List.length_drop] at hi'
      rw [List.getElem_drop, ← el_eq (by omega)] at e
      rw [← e]
      exact ltA_tr (h.1 i hij) (h.2 _ (by omega) (by omega))
theorem exit_mem {l : List Al} {j : Nat} {x y : Al} : y ∈ l.take j ++ x :: l.drop j ↔ y = x ∨ y ∈ l := by
  have h : y ∈ l ↔ y ∈ l.take j ∨ y ∈ l.drop j := by rw [← List.mem_append, List.take_append_drop]
  rw [List.mem_append, List.mem_cons, h]
  constructor
  · rintro (h | h | h)
    · exact .inr (.inl h)
    · exact .inl h
    · exact .inr (.inr h)
  · rintro (h | h | h)
    · exact .inr (.inl h)
    · exact .inl h
    · exact .inr (.inr h)
theorem exit_len {l : List Al} {j : Nat} {x : Al} (hj : j ≤ l.length) : (l.take j ++ x :: l.drop j).length = l.length + 1 := by simp; omega
end Go.Proofs.Ytacffoobeebleaa
