/- How a script of jobs that came in is opened; rows of int64 too. -/
import Derived.Test.YtolfioiccmmifaaDgO
import Derived.Test.YtolfioiccmmifaaDyE
import Derived.Deep.Slices
namespace Go.Proofs.Ytolfioiccmmifaa
open Go.ChangeShapes Go.WideShapes Go.ChangeAt Go.RowKit
theorem cellsOpD : Try.prog.cellsOf 33 = 3 := by kernel_rfl
theorem cellsI64 : Try.prog.cellsOf 2 = 1 := by kernel_rfl
theorem cellsIntD : Try.prog.cellsOf 3 = 1 := by kernel_rfl
theorem cellsSl64 : Try.prog.cellsOf 31 = 1 := by kernel_rfl
theorem listD_of {α : Type} {P : Nat → α → Prop} : ∀ n, (∀ i, i < n → ∃ v, P i v) → ∃ l : List α, l.length = n ∧ ∀ i, (h : i < l.length) → P i l[i]
  | 0, _ => ⟨[], rfl, fun i h => by simp at h⟩
  | n + 1, h => by
    obtain ⟨l, hl, hp⟩ := listD_of n (fun i hi => h i (by omega))
    obtain ⟨v, hv⟩ := h n (by omega)
    refine ⟨l ++ [v], by simp [hl], fun i hi => ?_⟩
    by_cases e : i < l.length
    · rw [List.getElem_append_left e]; exact hp i e
    · have : i = n := by simp at hi; omega
      subst this
      rw [List.getElem_append_right (by omega)]
      simpa [hl] using hv
section
variable {H : Type} {enc : TypeId × Value → H} {W : World} {base b0 : Nat} {r : Reach} {sp : Nat → Bool} {held : Bool} {v : Value} {d : DataW H} {p : List MemPlace}
set_option maxRecDepth 100000 in
theorem trod_ints {fuel : Nat} {c : Value} {x : DataW H × List MemPlace} (h : DataW.trod enc Try.prog W b0 sp held fuel 31 [c] = some x) : ∃ A n cap zs, c = .slice A n cap ∧ n ≤ cap ∧ cap ≤ maxLen ∧ SlZ W A n zs := by
  rcases Go.Deep.open_slice Try.underlying31 h with ⟨hcs, _⟩ | ⟨a, len, cap', m, nn, D, Pl, hcs, _, hle, hmx, hmm, hx, hel⟩
  · simp at hcs
    exact ⟨none, 0, 0, [], hcs, by omega, by unfold maxLen; omega, rfl, .inl rfl⟩
  · simp at hcs
    have hnm : len ≤ m := by rw [hmm]; split <;> omega
    have key : ∀ i, i < len → ∃ z : Int, W.cell? (a.add i) = some (.int .i64 z) := by
      intro i hi
      obtain ⟨cs', h1, h2⟩ := hel i (by omega)
      rw [cellsI64, Nat.mul_one] at h1
      obtain ⟨_, h4, h3⟩ := World.cells?_some h1
      match cs', h4 with
      | [c], _ =>
        obtain ⟨s, e0, _, hs⟩ := DataW.trod_int Try.underlying2 h2
        simp at e0
        subst e0
        have q0 := h3 0 (by omega)
        have e1 : (a.add i).add 0 = a.add i := by simp [Addr.add]
        rw [e1] at q0
        exact ⟨s, by simpa using q0⟩
    obtain ⟨zs, hz, hp⟩ := listD_of len key
    refine ⟨some a, len, cap', zs, hcs, hle, hmx, hz.symm, ?_⟩
    by_cases h0 : zs = []
    · exact .inl h0
    · have hpos : 0 < zs.length := List.length_pos_iff.2 h0
      obtain ⟨b, off, spot⟩ := a
      have hs : spot = none := by
        have := World.cell?_spot (hp 0 hpos)
        simpa [Addr.add] using this
      subst hs
      have hadd : ∀ (o i : Nat), (⟨b, o, none⟩ : Addr).add i = ⟨b, o + i, none⟩ := by intro o i; unfold Addr.add; split <;> simp_all
      refine .inr ⟨b, off, rfl, ?_, fun k hk => ?_⟩
      · have := World.block_lt_of_cell? W _ (hp 0 hpos)
        simpa [Addr.add] using this
      · have := hp k hk
        rw [hadd] at this
        rw [List.getD_eq_getElem?_getD, List.getElem?_eq_getElem hk]
        exact this
theorem open_ints (hv : Value.okWide Try.prog W r base 31 v) (h : DataW.Trod enc Try.prog W b0 sp held 31 v d p) : ∃ (A : Option Addr) (n cap : Nat) (zs : List Int), v = .slice A n cap ∧ SlZ W A n zs ∧ n ≤ cap ∧ cap ≤ maxLen := by
  obtain ⟨A, n, cap, rfl⟩ := okWide_slice Try.underlying31 hv
  obtain ⟨fuel, hf⟩ := h
  obtain ⟨A', n', cap', zs, e, h1, h2, h3⟩ := trod_ints (c := .slice A n cap) (by simpa [Value.cells] using hf)
  injection e with e1 e2 e3
  subst e1 e2 e3
  exact ⟨A, n, cap, zs, rfl, h3, h1, h2⟩
set_option maxRecDepth 100000 in
theorem trod_opd {fuel : Nat} {cs : List Value} {x : DataW H × List MemPlace} (h : DataW.trod enc Try.prog W b0 sp held fuel 33 cs = some x) :
    ∃ o : OpD, cs = [.int .i64 o.1, .int .i64 o.2.1, .slice o.2.2.1.1 o.2.2.1.2.1 o.2.2.1.2.2] ∧ SlZ W o.2.2.1.1 o.2.2.1.2.1 o.2.2.2 ∧ o.2.2.1.2.1 ≤ maxLen := by
  obtain ⟨xs, n, _, _, hl, hlen, hf⟩ := DataW.trod_struct Try.underlying33 h
  rw [cellsOpD] at hl
  match xs, hlen with
  | [z0, z1, z2], _ =>
    have h0 : DataW.trod enc Try.prog W b0 sp held n 3 ((cs.drop 0).take (Try.prog.cellsOf 3)) = some z0 := hf 0 _ rfl
    have h1 : DataW.trod enc Try.prog W b0 sp held n 2 ((cs.drop 1).take (Try.prog.cellsOf 2)) = some z1 := hf 1 _ rfl
    have h2 : DataW.trod enc Try.prog W b0 sp held n 31 ((cs.drop 2).take (Try.prog.cellsOf 31)) = some z2 := hf 2 _ rfl
    clear hf
    rw [cellsIntD] at h0
    rw [cellsI64] at h1
    rw [cellsSl64] at h2
    match cs, hl with
    | [c0, c1, c2], _ =>
      simp only [List.drop_zero, List.take_succ_cons, List.take_zero, List.drop_succ_cons] at h0 h1 h2
      obtain ⟨k, q0, _, _⟩ := DataW.trod_int Try.underlying3 h0
      obtain ⟨s, q1, _, _⟩ := DataW.trod_int Try.underlying2 h1
      obtain ⟨A, m, cap, zs, q2, w1, w2, w3⟩ := trod_ints h2
      simp at q0 q1
      subst q0 q1 q2
      exact ⟨⟨k, s, ⟨A, m, cap⟩, zs⟩, rfl, w3, by have := Nat.le_trans w1 w2; exact this⟩
set_option maxRecDepth 100000 in
theorem open_opd (hv : Value.okWide Try.prog W r base 29 v) (h : DataW.Trod enc Try.prog W b0 sp held 29 v d p) :
    ∃ (A : Option Addr) (n cap : Nat) (l : List OpD), v = .slice A n cap ∧ SlO W A n l ∧ n ≤ cap ∧ cap ≤ maxLen := by
  obtain ⟨A, n, cap, rfl⟩ := okWide_slice Try.underlying29 hv
  obtain ⟨fuel, hf⟩ := h
  rcases Go.Deep.open_slice Try.underlying29 hf with ⟨hcs, _⟩ | ⟨a, len, cap', m, nn, D, Pl, hcs, _, hle, hmx, hmm, hx, hel⟩
  · simp [Value.cells] at hcs
    obtain ⟨rfl, rfl, rfl⟩ := hcs
    exact ⟨none, 0, 0, [], rfl, ⟨rfl, .inl rfl, (fun _ h => nomatch h)⟩, by omega, by unfold maxLen; omega⟩
  · simp [Value.cells] at hcs
    obtain ⟨rfl, rfl, rfl⟩ := hcs
    have hnm : n ≤ m := by rw [hmm]; split <;> omega
    have key : ∀ i, i < n → ∃ o : OpD, W.cell? (a.add (i * 3)) = some (.int .i64 o.1) ∧ W.cell? ((a.add (i * 3)).add 1) = some (.int .i64 o.2.1) ∧ W.cell? ((a.add (i * 3)).add 2) = some (.slice o.2.2.1.1 o.2.2.1.2.1 o.2.2.1.2.2) ∧ SlZ W o.2.2.1.1 o.2.2.1.2.1 o.2.2.2 ∧ o.2.2.1.2.1 ≤ maxLen := by
      intro i hi
      obtain ⟨cs', h1, h2⟩ := hel i (by omega)
      rw [cellsOpD] at h1
      obtain ⟨o, rfl, hr⟩ := trod_opd h2
      obtain ⟨_, _, h3⟩ := World.cells?_some h1
      have q0 := h3 0 (by omega)
      have q1 := h3 1 (by omega)
      have q2 := h3 2 (by omega)
      simp at q0 q1 q2
      refine ⟨o, ?_, q1, q2, hr⟩
      have e0 : (a.add (i * 3)).add 0 = a.add (i * 3) := by simp [Addr.add]
      rw [e0] at q0; exact q0
    obtain ⟨l, hl, hp⟩ := listD_of n key
    obtain ⟨b, off, spot⟩ := a
    refine ⟨_, n, cap, l, rfl, ⟨hl.symm, ?_, fun x hx => ?_⟩, hle, hmx⟩
    · by_cases h0 : l = []
      · exact .inl h0
      · have hpos : 0 < l.length := List.length_pos_iff.2 h0
        have hs : spot = none := by
          have := World.cell?_spot (hp 0 hpos).1
          simpa [Addr.add] using this
        subst hs
        refine .inr ⟨b, off, rfl, ?_, ?_⟩
        · have := World.block_lt_of_cell? W _ (hp 0 hpos).1
          simpa [Addr.add] using this
        · intro k hk
          obtain ⟨p0, p1, p2, -⟩ := hp k hk
          have hadd : ∀ (o i : Nat), (⟨b, o, none⟩ : Addr).add i = ⟨b, o + i, none⟩ := by intro o i; unfold Addr.add; split <;> simp_all
          simp only [hadd] at p0 p1 p2
          exact ⟨p0, p1, p2⟩
    · obtain ⟨i, hi, rfl⟩ := List.mem_iff_getElem.1 hx
      exact (hp i hi).2.2.2
end
end Go.Proofs.Ytolfioiccmmifaa
