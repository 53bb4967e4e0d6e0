/- LedgerFull of chapter 13: the program's ledger and the reference's side by side. -/
import Derived.Test.YtobgolceggeogaaRefR
import Derived.Test.YtobgolceggeogaaLedW
namespace Go.Proofs.Ytobgolceggeogaa
open Go.RowKit
theorem LedB.keptT {B : Nat} {w w' : World} {L n : Nat} {A : Acc} (h : LedB B w L n A) (hk : KeptT w w') : LedB B w' L n A := by
  obtain ⟨h1, h2, h3, m, h, hm⟩ := h
  refine ⟨h1, h2, h3, m, h.at ?_ (fun b e => ?_), hm⟩
  · rw [h.1]; exact hk _ _ h.1 ⟨by decide, by decide⟩
  · subst e
    obtain ⟨o, ho⟩ : ∃ o, w.heap[b]? = some o := by
      cases hb : w.heap[b]? with
      | some o => exact ⟨o, rfl⟩
      | none =>
        have h5 := OwnsM.lt h.2
        rw [Array.getElem?_eq_none_iff] at hb
        omega
    rw [ho]
    refine hk _ _ ho ?_
    cases o with
    | cells cs t f => exact (OwnsM.ne h.2 ho rfl).elim
    | _ => trivial
theorem RefB.keptC {B : Nat} {w w' : World} {L R n n' : Nat} {A A' : Acc} (h : RefB B w R n A) (hl : LedB B w L n' A') (hk : KeptC w w' L) : RefB B w' R n A := by
  obtain ⟨v, l, ⟨h0, h1, h2⟩, hr⟩ := h
  obtain ⟨-, -, -, m, hL, -⟩ := hl
  refine ⟨v, l, ⟨h0, hk _ _ _ _ (fun e => ?_) h1, ?_⟩, hr⟩
  · subst e
    rw [hL.1] at h1
    injection h1 with h1
    injection h1 with _ h5
    exact absurd h5 (by decide)
  · obtain ⟨h3, h4 | ⟨g, cap, cur, rfl, hg, hh, rest⟩⟩ := h2
    · exact ⟨h3, .inl h4⟩
    · refine ⟨h3, .inr ⟨g, cap, cur, rfl, hg, hk _ _ _ _ (fun e => ?_) hh, rest⟩⟩
      subst e
      rw [hL.1] at hh
      injection hh with hh
      injection hh with _ h5
      exact absurd h5 (by decide)
end Go.Proofs.Ytobgolceggeogaa
