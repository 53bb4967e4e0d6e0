/- How a string that came in is opened. -/
import Derived.Test.YtkplhobiciddoaaVecO
import Derived.Test.YtkplhobiciddoaaWkO
import Derived.WalkKit
import Derived.ProofKit
import Derived.OpenShut
import Derived.ChangeSame
namespace Go.Proofs.Ytkplhobiciddoaa
open Go.ChangeShapes Go.WideShapes Go.ChangeAt Go.RowKit
set_option maxRecDepth 100000 in
theorem open_str {H : Type} {enc : TypeId × Value → H} {W : World} {base b0 : Nat} {r : Reach} {sp : Nat → Bool} {held : Bool} {v : Value} {d : DataW H} {p : List MemPlace}
    (hv : Value.okWide Try.prog W r base 9 v) (h : DataW.Trod enc Try.prog W b0 sp held 9 v d p) : ∃ s : ByteArray, v = .string s ∧ s.size ≤ maxLen := by
  obtain ⟨s, rfl⟩ := okWide_string Try.underlying9 hv
  obtain ⟨fuel, hf⟩ := h
  obtain ⟨s', h1, _, hs⟩ := DataW.trod_string Try.underlying9 hf
  simp [Value.cells] at h1
  subst h1
  exact ⟨s, rfl, hs⟩
end Go.Proofs.Ytkplhobiciddoaa
