/- How a key that came in is opened. -/
import Derived.Test.YthdbiablpkeagaaRows
import Derived.WalkKit
import Derived.ProofKit
import Derived.OpenShut
import Derived.ChangeSame
namespace Go.Proofs.Ythdbiablpkeagaa
open Go.ChangeShapes Go.WideShapes Go.ChangeAt Go.RowKit
theorem Try.own : ownKnob Try.prog.godebug = none := by kernel_rfl
theorem Try.laidOut : laidOutB Try.prog = true := by kernel_rfl
theorem cellsK : Try.prog.cellsOf 33 = 3 := by kernel_rfl
theorem cellsRt : Try.prog.cellsOf 31 = 2 := by kernel_rfl
theorem cellsI : Try.prog.cellsOf 2 = 1 := by kernel_rfl
theorem cellsU : Try.prog.cellsOf 29 = 1 := by kernel_rfl
theorem bounds_u64 {n : Int} (h : (Lit.int .u64 n).wf = true) : 0 ≤ n ∧ n ≤ 18446744073709551615 := by
  simp only [Lit.wf, Bool.and_eq_true, decide_eq_true_eq] at h
  obtain ⟨h0, h1⟩ := h
  exact ⟨h0, h1⟩
set_option maxRecDepth 100000 in
theorem trod_key {H : Type} {enc : TypeId × Value → H} {W : World} {b0 fuel : Nat} {sp : Nat → Bool} {held : Bool} {cs : List Value} {x : DataW H × List MemPlace}
    (h : DataW.trod enc Try.prog W b0 sp held fuel 33 cs = some x) : ∃ a b c : Int, cs = [.int .u64 a, .int .u64 b, .int .i64 c] ∧ (0 ≤ a ∧ a ≤ 18446744073709551615) ∧ (0 ≤ b ∧ b ≤ 18446744073709551615) := by
  obtain ⟨z0, z1, n, _, hl, h0', h1'⟩ := trod_struct2 Try.underlying33 h
  rw [cellsK] at hl
  have h0 : DataW.trod enc Try.prog W b0 sp held n 31 ((cs.drop 0).take (Try.prog.cellsOf 31)) = some z0 := h0'
  have h1 : DataW.trod enc Try.prog W b0 sp held n 2 ((cs.drop 2).take (Try.prog.cellsOf 2)) = some z1 := h1'
  clear h0' h1'
  rw [cellsRt] at h0
  rw [cellsI] at h1
  match cs, hl with
  | [c0, c1, c2], _ =>
    simp only [List.drop_zero, List.take_succ_cons, List.take_zero, List.drop_succ_cons] at h0 h1
    obtain ⟨y0, y1, m, _, _, g0', g1'⟩ := trod_struct2 Try.underlying31 h0
    have g0 : DataW.trod enc Try.prog W b0 sp held m 29 (([c0, c1].drop 0).take (Try.prog.cellsOf 29)) = some y0 := g0'
    have g1 : DataW.trod enc Try.prog W b0 sp held m 29 (([c0, c1].drop 1).take (Try.prog.cellsOf 29)) = some y1 := g1'
    clear g0' g1'
    rw [cellsU] at g0 g1
    simp only [List.drop_zero, List.take_succ_cons, List.take_zero, List.drop_succ_cons] at g0 g1
    obtain ⟨a, e0, _, wa⟩ := DataW.trod_int Try.underlying29 g0
    obtain ⟨b, e1, _, wb⟩ := DataW.trod_int Try.underlying29 g1
    obtain ⟨c, e2, _, _⟩ := DataW.trod_int Try.underlying2 h1
    simp at e0 e1 e2
    subst e0 e1 e2
    exact ⟨a, b, c, rfl, bounds_u64 wa, bounds_u64 wb⟩
set_option maxRecDepth 100000 in
theorem open_key {H : Type} {enc : TypeId × Value → H} {W : World} {base b0 : Nat} {r : Reach} {sp : Nat → Bool} {held : Bool} {v : Value} {d : DataW H} {p : List MemPlace}
    (hv : Value.okWide Try.prog W r base 33 v) (h : DataW.Trod enc Try.prog W b0 sp held 33 v d p) :
    ∃ a b c : Int, v = .agg #[.int .u64 a, .int .u64 b, .int .i64 c] ∧ (0 ≤ a ∧ a ≤ 18446744073709551615) ∧ (0 ≤ b ∧ b ≤ 18446744073709551615) := by
  obtain ⟨cs, rfl, _⟩ := okWide_struct Try.underlying33 hv
  obtain ⟨fuel, hf⟩ := h
  obtain ⟨a, b, c, hc, h1, h2⟩ := trod_key hf
  obtain ⟨l⟩ := cs
  simp only [Value.cells] at hc
  subst hc
  exact ⟨a, b, c, rfl, h1, h2⟩
end Go.Proofs.Ythdbiablpkeagaa
