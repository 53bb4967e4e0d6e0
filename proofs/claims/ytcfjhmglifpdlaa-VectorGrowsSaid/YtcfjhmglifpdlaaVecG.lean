/- How three vectors in one array that came in by value are opened. -/
import Derived.Test.YtcfjhmglifpdlaaVecO
namespace Go.Proofs.Ytcfjhmglifpdlaa
open Go.ChangeShapes Go.WideShapes Go.ChangeAt Go.RowKit
theorem cells3V : Try.prog.cellsOf 44 = 12 := by kernel_rfl
theorem open_vec3 {H : Type} {enc : TypeId × Value → H} {W : World} {base b0 : Nat} {r : Reach} {sp : Nat → Bool} {held : Bool} {v : Value} {d : DataW H} {p : List MemPlace}
    (hv : Value.okWide Try.prog W r base 44 v) (h : DataW.Trod enc Try.prog W b0 sp held 44 v d p) :
    ∃ a b c d p q r s a' b' c' d' : Int, v = .agg #[.int .i64 a, .int .i64 b, .int .i64 c, .int .i64 d, .int .i64 p, .int .i64 q, .int .i64 r, .int .i64 s, .int .i64 a', .int .i64 b', .int .i64 c', .int .i64 d'] := by
  obtain ⟨cs, rfl, _⟩ : ∃ cs, v = .agg cs ∧ True := by
    simp only [Value.okWide, Try.underlying44] at hv
    cases v <;> simp_all
  obtain ⟨fuel, hf⟩ := h
  obtain ⟨xs, m, _, _, hlen, hl, hel⟩ := DataW.trod_array Try.underlying44 hf
  rw [cells3V] at hlen
  rw [cellsV] at hel
  obtain ⟨l⟩ := cs
  simp only [Value.cells] at hlen hel
  match xs, hl with
  | [y0, y1, y2], _ =>
    have e0 := hel 0 (by omega)
    have e1 := hel 1 (by omega)
    have e2 := hel 2 (by omega)
    simp at e0 e1 e2
    obtain ⟨a, b, c, d, h0⟩ := trod_vec e0
    obtain ⟨p, q, r, s, h1⟩ := trod_vec e1
    obtain ⟨a', b', c', d', h2⟩ := trod_vec e2
    refine ⟨a, b, c, d, p, q, r, s, a', b', c', d', ?_⟩
    have h3 : l = l.take 4 ++ ((l.drop 4).take 4 ++ (l.drop 8).take 4) := by
      have e : (l.drop 8).take 4 = l.drop 8 := List.take_of_length_le (by simp; omega)
      rw [e, show l.drop 8 = (l.drop 4).drop 4 by rw [List.drop_drop], List.take_append_drop, List.take_append_drop]
    rw [h0, h1, h2] at h3
    rw [h3]
    rfl
end Go.Proofs.Ytcfjhmglifpdlaa
