/- Chapter 19's awake, and what Register makes of the one node of the laws. -/
import Derived.Test.YtkplhobiciddoaaWk2
namespace Go.Proofs.Ytkplhobiciddoaa
open Go.RowKit Go.WideShapes
abbrev sA : ByteArray := ⟨#[97]⟩
theorem sA_le : sA.size ≤ maxLen := by show 1 ≤ maxLen; unfold maxLen; omega
theorem nameA : nameB sA = true := by decide +kernel
theorem fnd_one (x : Nd) (h : x.name = sA) : fnd [x] (ky sA) = some x := by rw [fnd_cons, h, if_pos rfl]
theorem getR_one (x : Nd) (h : x.name = sA) : getR [x] sA = (x, 0) := by unfold getR; rw [fnd_one x h]
theorem put_one (x y : Nd) (h : x.name = y.name) : putN [x] y = [y] := by simp [putN, h]
theorem regR_zero (ep now : Int) (v : V) (hv : okV v = true) (h1 : ¬ ep < 1) (h2 : ¬ 2147483648 ≤ ep) (h3 : ¬ now < 0) (h4 : ¬ 1099511627776 < now) : regR [] sA ep v now = (false, 0, [⟨sA, ep, v, now, true⟩]) := by
  rw [regR_in nameA hv (by omega)]
  rfl
theorem regR_anew (x : Nd) (ep now : Int) (v : V) (hx : x.name = sA) (hv : okV v = true) (h1 : ¬ ep < 1) (h2 : ¬ 2147483648 ≤ ep) (h3 : ¬ now < 0) (h4 : ¬ 1099511627776 < now) (h5 : ¬ ep ≤ x.epoch) : regR [x] sA ep v now = (x.live, 0, [⟨sA, ep, v, now, true⟩]) := by
  rw [regR_in nameA hv (by omega), fnd_one x hx]
  simp only
  rw [if_neg h5, put_one _ _ hx]
theorem regR_late (x : Nd) (ep now : Int) (v : V) (hx : x.name = sA) (h1 : ¬ ep < 1) (h2 : ¬ 2147483648 ≤ ep) (h3 : ¬ now < 0) (h4 : ¬ 1099511627776 < now) (h5 : ep ≤ x.epoch) : regR [x] sA ep v now = (false, if okV v = true then 14 else 4, [x]) := by
  cases hv : okV v with
  | false => rw [regR_form (.inr hv)]; rfl
  | true =>
    rw [regR_in nameA hv (by omega), fnd_one x hx]
    simp only
    rw [if_pos h5, if_pos trivial]
set_option maxRecDepth 20000 in
set_option maxHeartbeats 1000000 in
theorem awake_any (w : World) : Calls Try.prog 9 #[] w fun e w' => e = .returned (.bool true) ∧ Below w.heap.size w w' := by
  have hR := regR_zero 1 0 (4, 0, 0, 0) (by decide) (by omega) (by omega) (by omega) (by omega)
  go_enter Try.func9, Try.ntmps9
  go_wp2_with fail
  refine (new_b w.heap.size w (Nat.le_refl _)).mono ?_
  rintro e w1 ⟨rfl, hb1, hT1⟩
  go_wp2_with fail
  refine (register_any w.heap.size w.heap.size [] sA 1 4 0 0 0 0 w1 hT1 sA_le).mono ?_
  rw [hR]
  rintro e w2 ⟨rfl, hT2, hB2, -⟩
  have B2 := hb1.trans hB2
  clear hT1 hb1 hB2 hR
  go_wp2_with fail
  refine (get_b w.heap.size w.heap.size _ sA w2 hT2 sA_le).mono ?_
  rw [getR_one _ rfl]
  rintro e w3 ⟨rfl, hb3⟩
  have B3 := B2.trans (hb3.mono B2.size)
  clear hT2 hb3 B2
  simp only [ndV, cellsN]
  go_wp2
  go_ret
  exact ⟨rfl, (by repeat (first | with_reducible assumption | with_reducible exact Below.refl _ _ | with_reducible refine Below.drew ?_ | with_reducible refine below_drewN ?_ _ | with_reducible refine below_alloc ?_ _ | with_reducible refine Below.alloc ?_ (by first | omega | (simp; done) | (simp; omega)) _ | with_reducible refine Below.setCell ?_ (by first | omega | (simp; done) | (simp; omega)) _ | with_reducible refine below_setRow ?_ (by first | omega | (simp; done) | (simp; omega)) _))⟩
end Go.Proofs.Ytkplhobiciddoaa
