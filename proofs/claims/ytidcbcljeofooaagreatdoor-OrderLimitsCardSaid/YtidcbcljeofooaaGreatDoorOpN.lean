/- Chapter 20: OrderLimits' walk, all cases. -/
import Derived.Test.YtidcbcljeofooaaGreatDoorOpL
namespace Go.Proofs.YtidcbcljeofooaaGreatDoor
open Go.RowKit
set_option maxHeartbeats 4000000 in
set_option maxRecDepth 20000 in
theorem wlim_out (n r : Int) (w : World) (hT : Tb w) (h : n < 0 ∨ 9999999999999 < n) : Calls Tryz.prog 6 #[.int .i64 n, .int .u8 r] w fun e w' => e = .returned (.bool true) ∧ Below w.heap.size w w' := by
  have HT := hid hT
  have HAW := hid (awake_any w hT.u)
  clear hT
  by_cases hn0 : n < 0
  · clear h
    go_enter Tryz.func6, Tryz.ntmps6
    go_wp2_with fail
    refine HAW.out.mono ?_
    rintro e w1 ⟨rfl, hb1⟩
    have HB1 := hid hb1
    have HA2 := hid (awake_any w1 (HT.out.below hb1).u)
    clear hb1 HAW
    go_wp2_with fail
    refine HA2.out.mono ?_
    rintro e w2 ⟨rfl, hb2⟩
    have HB2 := hid (HB1.out.trans (hb2.mono HB1.out.size))
    clear hb2 HA2
    go_wp2_with fail
    go_ret
    exact ⟨rfl, HB2.out⟩
  · have hn9 : 9999999999999 < n := h.resolve_left hn0
    clear h
    go_enter Tryz.func6, Tryz.ntmps6
    go_wp2_with fail
    refine HAW.out.mono ?_
    rintro e w1 ⟨rfl, hb1⟩
    have HB1 := hid hb1
    have HA2 := hid (awake_any w1 (HT.out.below hb1).u)
    clear hb1 HAW
    go_wp2_with fail
    refine HA2.out.mono ?_
    rintro e w2 ⟨rfl, hb2⟩
    have HB2 := hid (HB1.out.trans (hb2.mono HB1.out.size))
    clear hb2 HA2
    go_wp2_with fail
    go_ret
    exact ⟨rfl, HB2.out⟩
theorem limits_walk (n r : Int) (w : World) (hT : Tb w) (hr0 : 0 ≤ r) (hr : r < 256) : Calls Tryz.prog 6 #[.int .i64 n, .int .u8 r] w fun e w' => e = .returned (.bool true) ∧ Below w.heap.size w w' := by
  by_cases h : n < 0 ∨ 9999999999999 < n
  · exact wlim_out n r w hT h
  · have h0 : 0 ≤ n := by omega
    have h9 : n ≤ 9999999999999 := by omega
    have hk : r.tmod 4 = 0 ∨ r.tmod 4 = 1 ∨ r.tmod 4 = 2 ∨ r.tmod 4 = 3 := by
      rw [Int.tmod_eq_emod_of_nonneg hr0]; omega
    rcases hk with hk | hk | hk | hk
    · exact wlim_0 n r w hT h0 h9 hr0 hr hk
    · exact wlim_1 n r w hT h0 h9 hr0 hr hk
    · exact wlim_2 n r w hT h0 h9 hr0 hr hk
    · exact wlim_3 n r w hT h0 h9 hr0 hr hk
end Go.Proofs.YtidcbcljeofooaaGreatDoor
