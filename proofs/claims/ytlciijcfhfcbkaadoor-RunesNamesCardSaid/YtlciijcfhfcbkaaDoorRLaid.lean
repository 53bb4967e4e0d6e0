/- Chapter 1: what the rows list (the two tables of unicode/utf8) gives the walks, and the start in which they stand. -/
import Derived.Test.YtlciijcfhfcbkaaDoorRows
import Derived.Test.YtlciijcfhfcbkaaDoorTie
import Derived.Test.YtlciijcfhfcbkaaDoorCards
import Derived.Test.YtlciijcfhfcbkaaDoorShf
import Derived.ProofKit
import Derived.OpenShut
import Derived.Below
import Derived.LaidMore
import Derived.Lay
import Derived.Stop.Joined
import Derived.PinnedBridge
import Derived.Lib.LaidU8T
import Derived.SevenTiedAt
namespace Go.Proofs.YtlciijcfhfcbkaaDoor
open Go.ChangeShapes Go.WideShapes Go.ChangeAt Go.RowKit
open Go.ChangeMaps (open_string shut_string)
theorem own1 : ownKnob Tryd.prog.godebug = none := by kernel_rfl
theorem laidOut1 : laidOutB Tryd.prog = true := by kernel_rfl
/-- What each row of the chapter lists. -/
def laid2 : List (String × DataW Unit) := [("unicode/utf8.acceptRanges", Rows.laid_unicode_utf8_acceptRanges), ("unicode/utf8.first", Rows.laid_unicode_utf8_first)]
set_option maxRecDepth 100000 in
theorem tabs_of_laid {W : World} (h : laidMetH Tryd.prog laid2 W) : Lib.Utf8Tabs 0 1 W := by
  rw [MakeChecks.laidMetH_plain _ _ _ (by kernel_rfl)] at h
  have h1 : Lib.VarReads Tryd.prog W "unicode/utf8.first" Lib.firstData := by
    rw [← Pinned.utf8First_eq]; exact Lib.laidMet.reads h (.tail _ (.head _))
  have h2 : Lib.VarReads Tryd.prog W "unicode/utf8.acceptRanges" Lib.acceptData := by
    rw [show Lib.acceptData = Rows.laid_unicode_utf8_acceptRanges from by kernel_rfl]; exact Lib.laidMet.reads h (.head _)
  exact utf8Tabs_of_readsT (ρ := Tryd.lays197_ren) { Tryd.lays197 with } ⟨by kernel_rfl, by kernel_rfl, by kernel_rfl, by kernel_rfl, by kernel_rfl, by kernel_rfl, by kernel_rfl⟩ h1 h2
theorem reach_one {H : Type} {t : TypeId} {s : ByteArray} (h : (DataW.weightsEach Tryd.prog ([t] ++ []) ([DataW.lit (H := H) (.string s.data.toList)] ++ [])).all (· ≤ reachBytes) = true) : s.size ≤ 140737488351232 := by
  simp [DataW.weightsEach, DataW.weights, reachBytes] at h
  exact of_decide_eq_true h
theorem reach_two {H : Type} {t t' : TypeId} {s s' : ByteArray} (h : (DataW.weightsEach Tryd.prog ([t, t'] ++ []) ([DataW.lit (H := H) (.string s.data.toList), .lit (.string s'.data.toList)] ++ [])).all (· ≤ reachBytes) = true) : s.size ≤ 140737488351232 ∧ s'.size ≤ 140737488351232 := by
  simp [DataW.weightsEach, DataW.weights, reachBytes] at h
  exact ⟨of_decide_eq_true h.1, of_decide_eq_true h.2⟩
end Go.Proofs.YtlciijcfhfcbkaaDoor
