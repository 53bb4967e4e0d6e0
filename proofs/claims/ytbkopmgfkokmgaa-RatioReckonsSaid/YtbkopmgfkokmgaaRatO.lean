/- How a fraction that came in is opened: a struct of two uint64s by value; and three of them in one array. -/
import Derived.Test.YtbkopmgfkokmgaaRows
import Derived.Test.YtbkopmgfkokmgaaProg
import Derived.WalkKit
import Derived.ProofKit
import Derived.OpenShut
namespace Go.Proofs.Ytbkopmgfkokmgaa
open Go.ChangeShapes Go.WideShapes Go.ChangeAt Go.RowKit
theorem Try.own : ownKnob Try.prog.godebug = none := by kernel_rfl
theorem Try.laidOut : laidOutB Try.prog = true := by kernel_rfl
theorem cellsR : Try.prog.cellsOf 24 = 2 := by kernel_rfl
theorem cellsU : Try.prog.cellsOf 22 = 1 := by kernel_rfl
def wordB (n : Int) : Prop := 0 ≤ n ∧ n ≤ 18446744073709551615
theorem trod_rat {H : Type} {enc : TypeId × Value → H} {W : World} {b0 fuel : Nat} {sp : Nat → Bool} {held : Bool} {cs : List Value} {x : DataW H × List MemPlace}
    (h : DataW.trod enc Try.prog W b0 sp held fuel 24 cs = some x) : ∃ n d : Int, cs = [.int .u64 n, .int .u64 d] ∧ wordB n ∧ wordB d := by
  obtain ⟨y0, y1, m, _, hlen, h0, h1⟩ := trod_struct2 Try.underlying24 h
  rw [cellsR] at hlen
  match cs, hlen with
  | [c0, c1], _ =>
    simp only [cellsU] at h0 h1
    obtain ⟨x0, q0, _, w0⟩ := DataW.trod_int Try.underlying22 h0
    obtain ⟨x1, q1, _, w1⟩ := DataW.trod_int Try.underlying22 h1
    simp at q0 q1
    subst q0 q1
    exact ⟨x0, x1, rfl, bounds_u64 w0, bounds_u64 w1⟩
theorem open_rat {H : Type} {enc : TypeId × Value → H} {W : World} {base b0 : Nat} {r : Reach} {sp : Nat → Bool} {held : Bool} {v : Value} {d : DataW H} {p : List MemPlace}
    (hv : Value.okWide Try.prog W r base 24 v) (h : DataW.Trod enc Try.prog W b0 sp held 24 v d p) :
    ∃ n d : Int, v = .agg #[.int .u64 n, .int .u64 d] ∧ wordB n ∧ wordB d := by
  obtain ⟨cs, rfl, _⟩ : ∃ cs, v = .agg cs ∧ True := by
    simp only [Value.okWide, Try.underlying24] at hv
    cases v <;> simp_all
  obtain ⟨fuel, hf⟩ := h
  obtain ⟨a, b, hc, wa, wb⟩ := trod_rat hf
  obtain ⟨l⟩ := cs
  simp only [Value.cells] at hc
  subst hc
  exact ⟨a, b, rfl, wa, wb⟩
theorem cells3R : Try.prog.cellsOf 38 = 6 := by kernel_rfl
theorem open_rat3 {H : Type} {enc : TypeId × Value → H} {W : World} {base b0 : Nat} {r : Reach} {sp : Nat → Bool} {held : Bool} {v : Value} {d : DataW H} {p : List MemPlace}
    (hv : Value.okWide Try.prog W r base 38 v) (h : DataW.Trod enc Try.prog W b0 sp held 38 v d p) :
    ∃ an ad bn bd cn cd : Int, v = .agg #[.int .u64 an, .int .u64 ad, .int .u64 bn, .int .u64 bd, .int .u64 cn, .int .u64 cd] ∧ (wordB an ∧ wordB ad) ∧ (wordB bn ∧ wordB bd) ∧ wordB cn ∧ wordB cd := by
  obtain ⟨cs, rfl, _⟩ : ∃ cs, v = .agg cs ∧ True := by
    simp only [Value.okWide, Try.underlying38] at hv
    cases v <;> simp_all
  obtain ⟨fuel, hf⟩ := h
  obtain ⟨xs, m, _, _, hlen, hl, hel⟩ := DataW.trod_array Try.underlying38 hf
  rw [cells3R] at hlen
  rw [cellsR] at hel
  obtain ⟨l⟩ := cs
  simp only [Value.cells] at hlen hel
  match xs, hl with
  | [y0, y1, y2], _ =>
    have e0 := hel 0 (by omega)
    have e1 := hel 1 (by omega)
    have e2 := hel 2 (by omega)
    simp at e0 e1 e2
    obtain ⟨an, ad, h0, g0⟩ := trod_rat e0
    obtain ⟨bn, bd, h1, g1⟩ := trod_rat e1
    obtain ⟨cn, cd, h2, g2⟩ := trod_rat e2
    refine ⟨an, ad, bn, bd, cn, cd, ?_, g0, g1, g2⟩
    have h3 : l = l.take 2 ++ ((l.drop 2).take 2 ++ (l.drop 4).take 2) := by
      have e : (l.drop 4).take 2 = l.drop 4 := List.take_of_length_le (by simp; omega)
      rw [e, show l.drop 4 = (l.drop 2).drop 2 by rw [List.drop_drop], List.take_append_drop, List.take_append_drop]
    rw [h0, h1, h2] at h3
    rw [h3]
    rfl
end Go.Proofs.Ytbkopmgfkokmgaa
