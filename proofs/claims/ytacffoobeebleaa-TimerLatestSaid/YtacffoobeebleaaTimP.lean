/- How three numbers that came in are opened. -/
import Derived.Test.YtacffoobeebleaaTimO
namespace Go.Proofs.Ytacffoobeebleaa
open Go.ChangeShapes Go.WideShapes Go.ChangeAt Go.RowKit
theorem cellsI : Try.prog.cellsOf 2 = 1 := by kernel_rfl
theorem cells3I : Try.prog.cellsOf 53 = 3 := by kernel_rfl
theorem bounds_i64 {n : Int} (h : (Lit.int .i64 n).wf = true) : -9223372036854775808 ≤ n ∧ n ≤ 9223372036854775807 := by
  simp only [Lit.wf, Bool.and_eq_true, decide_eq_true_eq] at h
  obtain ⟨h0, h1⟩ := h
  exact ⟨h0, h1⟩
theorem bounds_u8 {n : Int} (h : (Lit.int .u8 n).wf = true) : 0 ≤ n ∧ n ≤ 255 := by
  simp only [Lit.wf, Bool.and_eq_true, decide_eq_true_eq] at h
  obtain ⟨h0, h1⟩ := h
  exact ⟨h0, h1⟩
set_option maxRecDepth 100000 in
theorem open_i3 {H : Type} {enc : TypeId × Value → H} {W : World} {base b0 : Nat} {r : Reach} {sp : Nat → Bool} {held : Bool} {v : Value} {d : DataW H} {p : List MemPlace}
    (hv : Value.okWide Try.prog W r base 53 v) (h : DataW.Trod enc Try.prog W b0 sp held 53 v d p) :
    ∃ a b c : Int, v = .agg #[.int .i64 a, .int .i64 b, .int .i64 c] ∧ (-9223372036854775808 ≤ b ∧ b ≤ 9223372036854775807) := by
  obtain ⟨cs, rfl, _⟩ : ∃ cs, v = .agg cs ∧ True := by
    simp only [Value.okWide, Try.underlying53] at hv
    cases v <;> simp_all
  obtain ⟨fuel, hf⟩ := h
  obtain ⟨xs, m, _, _, hlen, hl, hel⟩ := DataW.trod_array Try.underlying53 hf
  rw [cells3I] at hlen
  rw [cellsI] at hel
  obtain ⟨l⟩ := cs
  simp only [Value.cells] at hlen hel
  match l, hlen with
  | [c0, c1, c2], _ =>
    match xs, hl with
    | [y0, y1, y2], _ =>
      have e0 := hel 0 (by omega)
      have e1 := hel 1 (by omega)
      have e2 := hel 2 (by omega)
      simp at e0 e1 e2
      obtain ⟨x0, q0, _, w0⟩ := DataW.trod_int Try.underlying2 e0
      obtain ⟨x1, q1, _, w1⟩ := DataW.trod_int Try.underlying2 e1
      obtain ⟨x2, q2, _, w2⟩ := DataW.trod_int Try.underlying2 e2
      simp at q0 q1 q2
      subst q0 q1 q2
      exact ⟨x0, x1, x2, rfl, bounds_i64 w1⟩
end Go.Proofs.Ytacffoobeebleaa
