/- Chapter 13: the row that rises, beside the program's calls; the reference's Used. -/
import Derived.Test.YtobgolceggeogaaRefJ
import Derived.Test.YtobgolceggeogaaLedF
namespace Go.Proofs.Ytobgolceggeogaa
open Go.RowKit
theorem RefO.toB {B R n : Nat} {A : Acc} {w : World} (h : RefO B w R n A) : RefB B w R n A := by
  obtain ⟨v, l, h1, h2⟩ := h
  exact ⟨v, l, h1, h2.1⟩
theorem RefO.keptC {B : Nat} {w w' : World} {L R n n' : Nat} {A A' : Acc} (h : RefO B w R n A) (hl : LedB B w L n' A') (hk : KeptC w w' L) : RefO B w' R n A := by
  obtain ⟨v, l, ⟨h0, h1, h2⟩, hr⟩ := h
  obtain ⟨-, -, -, m, hL, -⟩ := hl
  refine ⟨v, l, ⟨h0, hk _ _ _ _ (fun e => ?_) h1, ?_⟩, hr⟩
  · subst e
    rw [hL.1] at h1
    injection h1 with h1
    injection h1 with _ h5
    exact absurd h5 (by decide)
  · obtain ⟨h3, h4 | ⟨g, cap, cur, rfl, hg, hh, rest⟩⟩ := h2
    · exact ⟨h3, .inl h4⟩
    · refine ⟨h3, .inr ⟨g, cap, cur, rfl, hg, hk _ _ _ _ (fun e => ?_) hh, rest⟩⟩
      subst e
      rw [hL.1] at hh
      injection hh with hh
      injection hh with _ h5
      exact absurd h5 (by decide)
theorem rused_b (B R n : Nat) (A : Acc) (s : ByteArray) (w : World) (hR : RefB B w R n A) (hn : n ≤ 64) :
    Calls Try.prog 26 #[.pointer (some ⟨R, 0, none⟩), .string s] w fun e w' =>
      e = .returned (.tuple #[vv (usedOf A s.data.toList), .int .i64 (if (A s.data.toList).isSome then 0 else 3)]) ∧ Below w.heap.size w w' := by
  obtain ⟨v, l, h1, h2⟩ := hR
  have hl := h2.1
  have hA := h2.2.2 s
  rcases look_find l s with ⟨k1, k2⟩ | ⟨k, hk, k1, k2, k3⟩
  · rw [k2] at hA
    refine (rused_none B R v l s w h1 (by omega) k1).mono ?_
    rintro x w' ⟨rfl, hp⟩
    refine ⟨?_, hp⟩
    unfold usedOf
    rw [hA]
    rfl
  · rw [k3] at hA
    refine (rused_some B R v l s w h1 (by omega) k k1 hk).mono ?_
    rintro x w' ⟨rfl, hp⟩
    refine ⟨?_, hp⟩
    unfold usedOf
    rw [hA]
    rfl
end Go.Proofs.Ytobgolceggeogaa
