/- How rows of small numbers that came in are opened. -/
import Derived.Test.YtolfioiccmmifaaDgO
import Derived.Test.YtolfioiccmmifaaDyD
import Derived.Deep.Slices
namespace Go.Proofs.Ytolfioiccmmifaa
open Go.ChangeShapes Go.WideShapes Go.ChangeAt Go.RowKit
theorem cellsU8 : Try.prog.cellsOf 5 = 1 := by kernel_rfl
theorem cellsB : Try.prog.cellsOf 38 = 1 := by kernel_rfl
section
variable {H : Type} {enc : TypeId × Value → H} {W : World} {base b0 : Nat} {r : Reach} {sp : Nat → Bool} {held : Bool} {v : Value} {d : DataW H} {p : List MemPlace}
set_option maxRecDepth 100000 in
theorem trod_bytes {fuel : Nat} {c : Value} {x : DataW H × List MemPlace} (h : DataW.trod enc Try.prog W b0 sp held fuel 38 [c] = some x) : ∃ A n cap, c = .slice A n cap ∧ n ≤ maxLen ∧ SlB W A n := by
  rcases Go.Deep.open_slice Try.underlying38 h with ⟨hcs, _⟩ | ⟨a, len, cap', m, nn, D, Pl, hcs, _, hle, hmx, hmm, hx, hel⟩
  · simp at hcs
    exact ⟨none, 0, 0, hcs, by unfold maxLen; omega, .inl rfl⟩
  · simp at hcs
    refine ⟨some a, len, cap', hcs, Nat.le_trans hle hmx, ?_⟩
    have hnm : len ≤ m := by rw [hmm]; split <;> omega
    by_cases h0 : len = 0
    · exact .inl h0
    · have key : ∀ i, i < len → ∃ z : Int, (0 ≤ z ∧ z ≤ 255) ∧ W.cell? (a.add i) = some (.int .u8 z) := by
        intro i hi
        obtain ⟨cs', h1, h2⟩ := hel i (by omega)
        rw [cellsU8, Nat.mul_one] at h1
        obtain ⟨_, h4, h3⟩ := World.cells?_some h1
        match cs', h4 with
        | [c], _ =>
          obtain ⟨s, e0, _, hs⟩ := DataW.trod_int Try.underlying5 h2
          simp at e0
          subst e0
          have q0 := h3 0 (by omega)
          have e1 : (a.add i).add 0 = a.add i := by simp [Addr.add]
          rw [e1] at q0
          exact ⟨s, bounds_u8 hs, by simpa using q0⟩
      obtain ⟨b, off, spot⟩ := a
      have hs : spot = none := by
        obtain ⟨z, _, hz⟩ := key 0 (by omega)
        have := World.cell?_spot hz
        simpa [Addr.add] using this
      subst hs
      have hadd : ∀ (o i : Nat), (⟨b, o, none⟩ : Addr).add i = ⟨b, o + i, none⟩ := by intro o i; unfold Addr.add; split <;> simp_all
      refine .inr ⟨b, off, rfl, ?_, fun k hk => ?_⟩
      · obtain ⟨z, _, hz⟩ := key 0 (by omega)
        have := World.block_lt_of_cell? W _ hz
        simpa [Addr.add] using this
      · obtain ⟨z, hz, hc⟩ := key k hk
        rw [hadd] at hc
        exact ⟨z, hc, hz⟩
set_option maxRecDepth 100000 in
theorem open_rows (hv : Value.okWide Try.prog W r base 37 v) (h : DataW.Trod enc Try.prog W b0 sp held 37 v d p) : ∃ (A : Option Addr) (n cap : Nat), v = .slice A n cap ∧ Sl2 W A n ∧ n ≤ cap ∧ cap ≤ maxLen := by
  obtain ⟨A, n, cap, rfl⟩ := okWide_slice Try.underlying37 hv
  obtain ⟨fuel, hf⟩ := h
  rcases Go.Deep.open_slice Try.underlying37 hf with ⟨hcs, _⟩ | ⟨a, len, cap', m, nn, D, Pl, hcs, _, hle, hmx, hmm, hx, hel⟩
  · simp [Value.cells] at hcs
    obtain ⟨rfl, rfl, rfl⟩ := hcs
    exact ⟨none, 0, 0, rfl, .inl rfl, by omega, by unfold maxLen; omega⟩
  · simp [Value.cells] at hcs
    obtain ⟨rfl, rfl, rfl⟩ := hcs
    have hnm : n ≤ m := by rw [hmm]; split <;> omega
    refine ⟨some a, n, cap, rfl, ?_, hle, hmx⟩
    by_cases h0 : n = 0
    · exact .inl h0
    · have key : ∀ i, i < n → ∃ (Ai : Option Addr) (ni ci : Nat), (ni ≤ maxLen ∧ SlB W Ai ni) ∧ W.cell? (a.add i) = some (.slice Ai ni ci) := by
        intro i hi
        obtain ⟨cs', h1, h2⟩ := hel i (by omega)
        rw [cellsB, Nat.mul_one] at h1
        obtain ⟨_, h4, h3⟩ := World.cells?_some h1
        match cs', h4 with
        | [c], _ =>
          obtain ⟨Ai, ni, ci, rfl, h5, h6⟩ := trod_bytes h2
          have q0 := h3 0 (by omega)
          have e1 : (a.add i).add 0 = a.add i := by simp [Addr.add]
          rw [e1] at q0
          exact ⟨Ai, ni, ci, ⟨h5, h6⟩, by simpa using q0⟩
      obtain ⟨b, off, spot⟩ := a
      have hs : spot = none := by
        obtain ⟨_, _, _, _, hz⟩ := key 0 (by omega)
        have := World.cell?_spot hz
        simpa [Addr.add] using this
      subst hs
      have hadd : ∀ (o i : Nat), (⟨b, o, none⟩ : Addr).add i = ⟨b, o + i, none⟩ := by intro o i; unfold Addr.add; split <;> simp_all
      refine .inr ⟨b, off, rfl, ?_, fun k hk => ?_⟩
      · obtain ⟨_, _, _, _, hz⟩ := key 0 (by omega)
        have := World.block_lt_of_cell? W _ hz
        simpa [Addr.add] using this
      · obtain ⟨Ai, ni, ci, ⟨h5, h6⟩, hc⟩ := key k hk
        rw [hadd] at hc
        exact ⟨Ai, ni, ci, hc, h5, h6⟩
end
end Go.Proofs.Ytolfioiccmmifaa
