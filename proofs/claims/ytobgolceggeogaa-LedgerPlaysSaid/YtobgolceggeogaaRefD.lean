/- Chapter 13: the keys, sorted, are the row's names. No program is in sight. -/
import Derived.Test.YtobgolceggeogaaRefI
import Derived.Test.YtobgolceggeogaaRefZ
namespace Go.Proofs.Ytobgolceggeogaa
open Go.RowKit
theorem sorted_unique {α : Type} {r : α → α → Prop} (anti : ∀ x y, r x y → r y x → x = y) : ∀ {a b : List α}, a.Pairwise r → b.Pairwise r → a.Perm b → a = b
  | [], b, _, _, p => by rw [List.nil_perm.1 p]
  | x :: a, [], _, _, p => absurd p.length_eq (by simp)
  | x :: a, y :: b, ha, hb, p => by
    obtain ⟨a1, a2⟩ := List.pairwise_cons.1 ha
    obtain ⟨b1, b2⟩ := List.pairwise_cons.1 hb
    have e : x = y := by
      rcases List.mem_cons.1 (p.mem_iff.1 (List.mem_cons_self (a := x) (l := a))) with e | hx
      · exact e
      · rcases List.mem_cons.1 (p.mem_iff.2 (List.mem_cons_self (a := y) (l := b))) with e | hy
        · exact e.symm
        · exact anti _ _ (a1 y hy) (b1 x hx)
    subst e
    rw [sorted_unique anti a2 b2 ((List.perm_cons x).1 p)]
theorem ltS_ky (a b : ByteArray) : ltS a b = true ↔ a.data.toList < b.data.toList := by
  unfold ltS
  rw [bytesLess_eq]
  simp [Go.Lib.toList_data]
theorem sorted_names {L : List RA} (h : RisR L) {ss : List (List UInt8)} (p : ss.Perm (L.map (fun x => x.1.data.toList))) : ss.mergeSort (fun x y => decide (x ≤ y)) = L.map (fun x => x.1.data.toList) := by
  have s1 : (ss.mergeSort (fun x y => decide (x ≤ y))).Pairwise (fun x y => x ≤ y) := by
    have := List.pairwise_mergeSort (le := fun (x y : List UInt8) => decide (x ≤ y)) (fun a b c h1 h2 => by simp only [decide_eq_true_eq] at *; exact List.le_trans h1 h2) (fun a b => by simp only [Bool.or_eq_true, decide_eq_true_eq]; exact List.le_total a b) ss
    exact List.Pairwise.imp (fun h => by simpa using h) this
  have s2 : (L.map (fun x => x.1.data.toList)).Pairwise (fun x y => x ≤ y) := by
    rw [List.pairwise_map]
    exact List.Pairwise.imp (fun {a b} hab => List.le_of_lt ((ltS_ky _ _).1 hab)) h
  exact sorted_unique (fun x y h1 h2 => List.le_antisymm h1 h2) s1 s2 ((List.mergeSort_perm _ _).trans p)
end Go.Proofs.Ytobgolceggeogaa
