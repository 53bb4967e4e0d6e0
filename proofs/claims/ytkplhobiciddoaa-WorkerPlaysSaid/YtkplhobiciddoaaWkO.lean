/- How two words that came in are opened. -/
import Derived.Test.YtkplhobiciddoaaProg
import Derived.Test.YtkplhobiciddoaaChecked
import Derived.OpenShut
import Derived.ProofKit
namespace Go.Proofs.Ytkplhobiciddoaa
open Go.ChangeShapes Go.WideShapes Go.ChangeAt Go.RowKit
theorem cellsU : Try.prog.cellsOf 22 = 1 := by kernel_rfl
theorem cells2U : Try.prog.cellsOf 23 = 2 := by kernel_rfl
theorem bounds_u32 {n : Int} (h : (Lit.int .u32 n).wf = true) : 0 ≤ n ∧ n ≤ 4294967295 := by
  simp only [Lit.wf, Bool.and_eq_true, decide_eq_true_eq] at h
  obtain ⟨h0, h1⟩ := h
  exact ⟨h0, h1⟩
theorem bounds_u16 {n : Int} (h : (Lit.int .u16 n).wf = true) : 0 ≤ n ∧ n ≤ 65535 := by
  simp only [Lit.wf, Bool.and_eq_true, decide_eq_true_eq] at h
  obtain ⟨h0, h1⟩ := h
  exact ⟨h0, h1⟩
theorem bounds_u8 {n : Int} (h : (Lit.int .u8 n).wf = true) : 0 ≤ n ∧ n ≤ 255 := by
  simp only [Lit.wf, Bool.and_eq_true, decide_eq_true_eq] at h
  obtain ⟨h0, h1⟩ := h
  exact ⟨h0, h1⟩
theorem bounds_i64 {n : Int} (h : (Lit.int .i64 n).wf = true) : -9223372036854775808 ≤ n ∧ n ≤ 9223372036854775807 := by
  simp only [Lit.wf, Bool.and_eq_true, decide_eq_true_eq] at h
  obtain ⟨h0, h1⟩ := h
  exact ⟨h0, h1⟩
set_option maxRecDepth 100000 in
theorem open_u2 {H : Type} {enc : TypeId × Value → H} {W : World} {base b0 : Nat} {r : Reach} {sp : Nat → Bool} {held : Bool} {v : Value} {d : DataW H} {p : List MemPlace}
    (hv : Value.okWide Try.prog W r base 23 v) (h : DataW.Trod enc Try.prog W b0 sp held 23 v d p) :
    ∃ a b : Int, v = .agg #[.int .u32 a, .int .u32 b] ∧ (0 ≤ a ∧ a ≤ 4294967295) ∧ (0 ≤ b ∧ b ≤ 4294967295) := by
  obtain ⟨cs, rfl, _⟩ : ∃ cs, v = .agg cs ∧ True := by
    simp only [Value.okWide, Try.underlying23] at hv
    cases v <;> simp_all
  obtain ⟨fuel, hf⟩ := h
  obtain ⟨xs, m, _, _, hlen, hl, hel⟩ := DataW.trod_array Try.underlying23 hf
  rw [cells2U] at hlen
  rw [cellsU] at hel
  obtain ⟨l⟩ := cs
  simp only [Value.cells] at hlen hel
  match l, hlen with
  | [c0, c1], _ =>
    match xs, hl with
    | [y0, y1], _ =>
      have e0 := hel 0 (by omega)
      have e1 := hel 1 (by omega)
      simp at e0 e1
      obtain ⟨x0, q0, _, w0⟩ := DataW.trod_int Try.underlying22 e0
      obtain ⟨x1, q1, _, w1⟩ := DataW.trod_int Try.underlying22 e1
      simp at q0 q1
      subst q0 q1
      exact ⟨x0, x1, rfl, bounds_u32 w0, bounds_u32 w1⟩
end Go.Proofs.Ytkplhobiciddoaa
