/- The law's first question: that the program answers a fixed case rightly. -/
import Derived.Test.YtcfjhmglifpdlaaVec5
import Derived.Test.YtcfjhmglifpdlaaVec4
import Derived.Test.YtcfjhmglifpdlaaVecE
namespace Go.Proofs.Ytcfjhmglifpdlaa
open Go.RowKit
theorem awake_sum : addR (1, 2, 0, 0) (1, 0, 0, 0) = ((2, 2, 0, 0), 0) := by decide
theorem awake_fits : fitsB 1 0 0 0 2 2 0 0 = true := by decide
theorem awake_formed : formedB 2 2 0 0 = true := by decide
set_option maxHeartbeats 1000000 in
theorem awake_any (w : World) : Calls Try.prog 9 #[] w fun e w' => e = .returned (.bool true) ∧ Below w.heap.size w w' := by
  go_enter Try.func9, Try.ntmps9
  go_wp2_with fail
  refine (add_any 1 2 0 0 1 0 0 0 _).mono ?_
  rintro e w1 ⟨rfl, hb1⟩
  rw [awake_sum]
  unfold vv
  go_wp2_with fail
  refine (fits_any _ _ _ _ _ _ _ _ _).mono ?_
  rintro e w2 ⟨rfl, hb2⟩
  rw [awake_fits]
  obtain ⟨hc2, hf2⟩ := bcell hb2
  go_wp2_with fail
  refine (formed_any _ _ _ _ _).mono ?_
  rintro e w3 ⟨rfl, hb3⟩
  rw [awake_formed]
  go_wp2_with fail
  go_ret
  exact ⟨rfl, below_call (below_call (below_alloc hb1 _) hb2) hb3⟩
end Go.Proofs.Ytcfjhmglifpdlaa
