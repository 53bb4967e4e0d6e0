/- How a slice of usages that came in is opened. -/
import Derived.Test.YteccpjijlkjneaaOpn
import Derived.Test.YteccpjijlkjneaaShX
namespace Go.Proofs.Yteccpjijlkjneaa
open Go.ChangeShapes Go.WideShapes Go.ChangeAt Go.RowKit
section
variable {H : Type} {enc : TypeId × Value → H} {W : World} {base b0 fuel : Nat} {r : Reach} {sp : Nat → Bool} {held : Bool} {v : Value} {d : DataW H} {p : List MemPlace} {cs : List Value} {x : DataW H × List MemPlace}
theorem cellsUs : Try.prog.cellsOf 37 = 6 := by kernel_rfl
set_option maxRecDepth 100000 in
theorem trod_us (h : DataW.trod enc Try.prog W b0 sp held fuel 37 cs = some x) : ∃ u : Us, cs = (List.range 6).map (fU u) ∧ u.name.size ≤ maxLen := by
  obtain ⟨xs, n, _, _, hl, hlen, hf⟩ := DataW.trod_struct Try.underlying37 h
  rw [cellsUs] at hl
  match xs, hlen with
  | [z0, z1, z2], _ =>
    have h0 : DataW.trod enc Try.prog W b0 sp held n 9 ((cs.drop 0).take (Try.prog.cellsOf 9)) = some z0 := hf 0 _ rfl
    have h1 : DataW.trod enc Try.prog W b0 sp held n 2 ((cs.drop 1).take (Try.prog.cellsOf 2)) = some z1 := hf 1 _ rfl
    have h2 : DataW.trod enc Try.prog W b0 sp held n 23 ((cs.drop 2).take (Try.prog.cellsOf 23)) = some z2 := hf 2 _ rfl
    clear hf
    rw [cellsStr] at h0
    rw [cellsI] at h1
    rw [cellsV] at h2
    match cs, hl with
    | [c0, c1, c2, c3, c4, c5], _ =>
      simp only [List.drop_zero, List.take_succ_cons, List.take_zero, List.drop_succ_cons] at h0 h1 h2
      obtain ⟨s, q0, hs⟩ := trod_str1 h0
      obtain ⟨k, q1, -⟩ := trod_int1 h1
      obtain ⟨a, b, c, e, q2⟩ := trod_vec h2
      simp at q2
      obtain ⟨rfl, rfl, rfl, rfl⟩ := q2
      subst q0 q1
      exact ⟨⟨s, k, a, b, c, e⟩, rfl, hs⟩
set_option maxRecDepth 100000 in
theorem open_us (hv : Value.okWide Try.prog W r base 24 v) (h : DataW.Trod enc Try.prog W b0 sp held 24 v d p) :
    ∃ (A : Option Addr) (n cap : Nat) (l : List Us), v = .slice A n cap ∧ SlU W A n l ∧ n ≤ cap ∧ cap ≤ maxLen := by
  obtain ⟨A, n, cap, rfl⟩ := okWide_slice Try.underlying24 hv
  obtain ⟨fuel, hf⟩ := h
  obtain ⟨l, ⟨h1, h2, -⟩, h3, h4⟩ := trod_slz (z := 6) (by omega) (f := fU) (Pr := fun u => u.name.size ≤ maxLen) Try.underlying24 cellsUs (fun k cs y hy => trod_us hy) (A := A) (n := n) (cap := cap) hf
  refine ⟨A, n, cap, l, rfl, ⟨h1, ?_⟩, h3, h4⟩
  rcases h2 with h2 | ⟨b, off, e, hb, hc⟩
  · exact .inl h2
  · exact .inr ⟨b, off, e, hb, fun j u hj => ⟨hc j u hj 0 (by omega), hc j u hj 1 (by omega), hc j u hj 2 (by omega), hc j u hj 3 (by omega), hc j u hj 4 (by omega), hc j u hj 5 (by omega)⟩⟩
set_option maxRecDepth 100000 in
theorem open_nm (hv : Value.okWide Try.prog W r base 26 v) (h : DataW.Trod enc Try.prog W b0 sp held 26 v d p) :
    ∃ (A : Option Addr) (n cap : Nat) (ks : List (List UInt8)), v = .slice A n cap ∧ SlN W A n ks ∧ n ≤ cap ∧ cap ≤ maxLen := by
  obtain ⟨A, n, cap, l, rfl, ⟨h1, h2, -⟩, h3, h4⟩ := open_strs hv h
  refine ⟨A, n, cap, l.map ky, rfl, ⟨by rw [List.length_map]; exact h1, ?_⟩, h3, h4⟩
  rcases h2 with rfl | ⟨b, off, e, hb, hc⟩
  · exact .inl rfl
  · refine .inr ⟨b, off, e, hb, fun j hj => ?_⟩
    rw [List.length_map] at hj
    have := hc j _ (List.getElem?_eq_getElem hj) 0 (by omega)
    rw [Nat.mul_one, Nat.add_zero] at this
    rw [this, List.getElem_map]
    rfl
end
end Go.Proofs.Yteccpjijlkjneaa
