/- Chapter 20: what the rows list (tables of the library's) gives the walks. -/
import Derived.Test.YtidcbcljeofooaaGreatDoorRows
import Derived.Test.YtidcbcljeofooaaGreatDoorTie
import Derived.Test.YtidcbcljeofooaaGreatDoorCards
import Derived.Test.YtidcbcljeofooaaGreatDoorOpA
import Derived.ProofKit
import Derived.OpenShut
import Derived.Below
import Derived.LaidMore
import Derived.Lay
import Derived.Stop.Joined
import Derived.Stop.LaidErr
import Derived.PinnedBridge
import Derived.Lib.LaidU8T
import Derived.Lib.LaidTab
import Derived.SevenTiedAt
namespace Go.Proofs.YtidcbcljeofooaaGreatDoor
open Go.ChangeShapes Go.WideShapes Go.ChangeAt Go.RowKit
open Go.ChangeMaps (open_string shut_string)
theorem own1 : ownKnob Tryz.prog.godebug = none := by kernel_rfl
theorem laidOut1 : laidOutB Tryz.prog = true := by kernel_rfl
/-- What OrderParses' row lists. -/
def laid2 : List (String × DataW Unit) := [("unicode/utf8.acceptRanges", Rows.laid_unicode_utf8_acceptRanges), ("unicode/utf8.first", Rows.laid_unicode_utf8_first)]
/-- What the other rows list. -/
def laid5 : List (String × DataW Unit) := [("math/bits.deBruijn32tab", Rows.laid_math_bits_deBruijn32tab), ("math/bits.deBruijn64tab", Rows.laid_math_bits_deBruijn64tab), ("internal/strconv.uint64pow10", Rows.laid_internal_strconv_uint64pow10), ("unicode/utf8.acceptRanges", Rows.laid_unicode_utf8_acceptRanges), ("unicode/utf8.first", Rows.laid_unicode_utf8_first)]
set_option maxRecDepth 100000 in
theorem tabs_of_laid {W : World} (h : laidMet Tryz.prog laid2 W) : Lib.Utf8Tabs 0 1 W := by
  have h1 : Lib.VarReads Tryz.prog W "unicode/utf8.first" Lib.firstData := by
    rw [← Pinned.utf8First_eq]; exact Lib.laidMet.reads h (.tail _ (.head _))
  have h2 : Lib.VarReads Tryz.prog W "unicode/utf8.acceptRanges" Lib.acceptData := by
    rw [show Lib.acceptData = Rows.laid_unicode_utf8_acceptRanges from by kernel_rfl]; exact Lib.laidMet.reads h (.head _)
  exact utf8Tabs_of_readsT (ρ := Tryz.lays197_ren) { Tryz.lays197 with } ⟨by kernel_rfl, by kernel_rfl, by kernel_rfl, by kernel_rfl, by kernel_rfl, by kernel_rfl, by kernel_rfl⟩ h1 h2
theorem tabs2 {W : World} (h : laidMetH Tryz.prog laid2 W) : Lib.Utf8Tabs 0 1 W :=
  tabs_of_laid (by rw [MakeChecks.laidMetH_plain _ _ _ (by kernel_rfl)] at h; exact h)
set_option maxRecDepth 100000 in
theorem tabs5 {W : World} (h : laidMetH Tryz.prog laid5 W) : Tb W := by
  rw [MakeChecks.laidMetH_plain _ _ _ (by kernel_rfl)] at h
  have h3 := h.tail.tail
  refine ⟨tabs_of_laid h3.tail, ?_⟩
  have h4 : laidMet Tryz.prog (("internal/strconv.uint64pow10", Lib.tabData .u64 Lib.pow10Tab) :: laid2) W := by
    rw [show Lib.tabData .u64 Lib.pow10Tab = Rows.laid_internal_strconv_uint64pow10 from by kernel_rfl]; exact h3
  exact Lib.tabIs_of_head (g := 2) (t := 209) (e := 177) (n := 20) (by kernel_rfl) (by kernel_rfl) (by kernel_rfl) (by kernel_rfl) (by kernel_rfl) (by kernel_rfl) h4
theorem reach_one {H : Type} {t : TypeId} {s : ByteArray} (h : (DataW.weightsEach Tryz.prog ([t] ++ []) ([DataW.lit (H := H) (.string s.data.toList)] ++ [])).all (· ≤ reachBytes) = true) : s.size ≤ 140737488351232 := by
  simp [DataW.weightsEach, DataW.weights, reachBytes] at h
  exact of_decide_eq_true h
end Go.Proofs.YtidcbcljeofooaaGreatDoor
