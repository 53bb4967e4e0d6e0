/- TimerNil's walk: no clock has no alarms and takes none, the zero clock is as a new one. -/
import Derived.Test.YtacffoobeebleaaTimB
namespace Go.Proofs.Ytacffoobeebleaa
open Go.RowKit
set_option maxHeartbeats 4000000 in
theorem timerNil_any (s : ByteArray) (t : Int) (w : World) (hs : s.size ≤ maxLen) :
    Calls Try.prog 8 #[.string s, .int .i64 t] w fun e w' => e = .returned (.bool true) ∧ Below w.heap.size w w' := by
  have HS := hid hs
  clear hs
  go_enter Try.func8, Try.ntmps8
  go_wp2_with fail
  refine (awake_any w).mono ?_
  rintro e w1 ⟨rfl, hb1⟩
  have B1 := hid hb1
  clear hb1
  go_wp2_with fail
  refine (nget s w1).mono ?_
  rintro e w2 ⟨rfl, hb2⟩
  have B2 := hid (B1.out.trans (hb2.mono B1.out.size))
  clear hb2
  go_wp2_with fail
  refine (nnext w2).mono ?_
  rintro e w3 ⟨rfl, hb3⟩
  have b3 := B2.out.trans (hb3.mono B2.out.size)
  have s3 := b3.size
  have B3 := hid b3
  clear hb3
  go_wp2_with fail
  refine (nset s t _).mono ?_
  rintro e w4 ⟨rfl, hb4⟩
  have B4 : Hid (Below w.heap.size w w4) := Below.trans (by repeat (first | with_reducible assumption | with_reducible exact Below.refl _ _ | with_reducible refine Below.drew ?_ | with_reducible refine below_drewN ?_ _ | with_reducible refine below_alloc ?_ _ | with_reducible refine Below.alloc ?_ (by first | omega | (simp; done) | (simp; omega)) _ | with_reducible refine Below.setCell ?_ (by first | omega | (simp; done) | (simp; omega)) _ | with_reducible refine below_setRow ?_ (by first | omega | (simp; done) | (simp; omega)) _)) (hb4.mono (by first | omega | (simp; done) | (simp; omega)))
  clear hb4 b3
  go_wp2_with fail
  refine (ncancel s w4).mono ?_
  rintro e w5 ⟨rfl, hb5⟩
  have B5 := hid (B4.out.trans (hb5.mono B4.out.size))
  clear hb5
  go_wp2_with fail
  refine (ndue t w5).mono ?_
  rintro e w6 ⟨rfl, hb6⟩
  have B6 := hid (B5.out.trans (hb6.mono B5.out.size))
  clear hb6
  go_wp2_with fail
  refine (nlen w6).mono ?_
  rintro e w7 ⟨rfl, hb7⟩
  have b7 := B6.out.trans (hb7.mono B6.out.size)
  have s7 := b7.size
  clear hb7
  go_wp2_with fail
  have b8 : Below w.heap.size w (w7.alloc (.cells #[.slice none 0 0, .map none] 61)) := b7.alloc s7 _
  have k8 : Clk w.heap.size (w7.alloc (.cells #[.slice none 0 0, .map none] 61)) w7.heap.size (.slice none 0 0) none [] := Clk.start s7 (alloc_at w7 _)
  refine (set_any w.heap.size w7.heap.size _ none [] s t _ k8 HS.out).mono ?_
  rintro e w9 ⟨rfl, v9, m9, l9, k9, q9, t9, f9⟩
  obtain rfl := setR_nil q9
  rw [setE_nil]
  have K9 := hid k9
  have B9 : Hid (Below w.heap.size w w9) := b8.trans (t9.below b8.size (fun k hk => (k8.foot hk).1))
  clear k9 q9 t9 f9 k8 b8 b7
  go_wp2_with fail
  refine (due_any w.heap.size w7.heap.size v9 m9 _ t w9 K9.out).mono ?_
  rintro e wA ⟨vo, vA, mA, out, lA, rfl, dA, rA⟩
  obtain ⟨rfl, rfl⟩ := due_one rA (Int.le_refl _)
  obtain ⟨g, cap, rfl, hg, hgl, hcell⟩ := row_cells dA.row (by simp)
  obtain ⟨c0, c1⟩ := hcell 0 (by simp)
  rw [show el [((s, t) : Al)] 0 = ((s, t) : Al) from rfl] at c0 c1
  simp only [Nat.zero_mul, Nat.zero_add] at c0 c1
  have bA := hid (B9.out.trans (dA.tur.below B9.out.size (fun k hk => (K9.out.foot hk).1)))
  rw [show (([((s, t) : Al)] : List Al).length) = 1 from rfl]
  clear dA rA hcell
  go_wp2
  go_ret
  exact ⟨rfl, bA.out⟩
end Go.Proofs.Ytacffoobeebleaa
