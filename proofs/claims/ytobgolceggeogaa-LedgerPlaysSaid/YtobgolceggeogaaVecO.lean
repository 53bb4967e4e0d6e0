/- How a vector that came in is opened: an array of four int64s by value. -/
import Derived.Test.YtobgolceggeogaaRows
import Derived.Test.YtobgolceggeogaaVec
import Derived.WalkKit
import Derived.ProofKit
import Derived.OpenShut
namespace Go.Proofs.Ytobgolceggeogaa
open Go.ChangeShapes Go.WideShapes Go.ChangeAt Go.RowKit
theorem Try.own : ownKnob Try.prog.godebug = none := by kernel_rfl
theorem Try.laidOut : laidOutB Try.prog = true := by kernel_rfl
theorem cellsV : Try.prog.cellsOf 29 = 4 := by kernel_rfl
theorem cellsI : Try.prog.cellsOf 2 = 1 := by kernel_rfl
theorem trod_vec {H : Type} {enc : TypeId × Value → H} {W : World} {b0 fuel : Nat} {sp : Nat → Bool} {held : Bool} {cs : List Value} {x : DataW H × List MemPlace}
    (h : DataW.trod enc Try.prog W b0 sp held fuel 29 cs = some x) : ∃ a b c e : Int, cs = [.int .i64 a, .int .i64 b, .int .i64 c, .int .i64 e] := by
  obtain ⟨xs, m, _, _, hlen, hl, hel⟩ := DataW.trod_array Try.underlying29 h
  rw [cellsV] at hlen
  rw [cellsI] at hel
  match cs, hlen with
  | [c0, c1, c2, c3], _ =>
    match xs, hl with
    | [y0, y1, y2, y3], _ =>
      have e0 := hel 0 (by omega)
      have e1 := hel 1 (by omega)
      have e2 := hel 2 (by omega)
      have e3 := hel 3 (by omega)
      simp at e0 e1 e2 e3
      obtain ⟨x0, q0, _, _⟩ := DataW.trod_int Try.underlying2 e0
      obtain ⟨x1, q1, _, _⟩ := DataW.trod_int Try.underlying2 e1
      obtain ⟨x2, q2, _, _⟩ := DataW.trod_int Try.underlying2 e2
      obtain ⟨x3, q3, _, _⟩ := DataW.trod_int Try.underlying2 e3
      simp at q0 q1 q2 q3
      subst q0 q1 q2 q3
      exact ⟨x0, x1, x2, x3, rfl⟩
set_option maxRecDepth 100000 in
theorem open_vec {H : Type} {enc : TypeId × Value → H} {W : World} {base b0 : Nat} {r : Reach} {sp : Nat → Bool} {held : Bool} {v : Value} {d : DataW H} {p : List MemPlace}
    (hv : Value.okWide Try.prog W r base 29 v) (h : DataW.Trod enc Try.prog W b0 sp held 29 v d p) :
    ∃ a b c e : Int, v = .agg #[.int .i64 a, .int .i64 b, .int .i64 c, .int .i64 e] := by
  obtain ⟨cs, rfl, _⟩ : ∃ cs, v = .agg cs ∧ True := by
    simp only [Value.okWide, Try.underlying29] at hv
    cases v with
    | agg cs => exact ⟨cs, rfl, trivial⟩
    | _ => exact absurd hv (by simp)
  obtain ⟨fuel, hf⟩ := h
  obtain ⟨a, b, c, e, hc⟩ := trod_vec hf
  obtain ⟨l⟩ := cs
  simp only [Value.cells] at hc
  subst hc
  exact ⟨a, b, c, e, rfl⟩
end Go.Proofs.Ytobgolceggeogaa
