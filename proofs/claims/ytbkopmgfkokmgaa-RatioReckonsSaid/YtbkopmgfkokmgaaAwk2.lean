/- The first question of chapter 2's laws: that the program answers a fixed case rightly. -/
import Derived.Test.YtbkopmgfkokmgaaRat2
namespace Go.Proofs.Ytbkopmgfkokmgaa
open Go.RowKit
theorem awk2_new : newR 6 4 = ((3, 2), 0) := by decide
theorem awk2_cmp : cmpR 1 3 1 2 = (-1, 0) := by decide
set_option maxHeartbeats 1000000 in
theorem awake2_any (w : World) : Calls Try.prog 8 #[] w fun e w' => e = .returned (.bool true) ∧ Below w.heap.size w w' := by
  go_enter Try.func8, Try.ntmps8
  go_wp2_with fail
  refine (new_any 6 4 _ (by omega) (by omega) (by omega) (by omega)).mono ?_
  rintro e w1 ⟨rfl, hb1⟩
  rw [awk2_new]
  go_wp2_with fail
  refine (cmpR_any 1 3 1 2 _ (by omega) (by omega) (by omega) (by omega) (by omega) (by omega) (by omega) (by omega)).mono ?_
  rintro e w2 ⟨rfl, hb2⟩
  rw [awk2_cmp]
  obtain ⟨hc2, hf2⟩ := bcell hb2
  go_wp2
  go_ret
  exact ⟨by first | rfl | simp, below_call (below_alloc hb1 _) hb2⟩
end Go.Proofs.Ytbkopmgfkokmgaa
