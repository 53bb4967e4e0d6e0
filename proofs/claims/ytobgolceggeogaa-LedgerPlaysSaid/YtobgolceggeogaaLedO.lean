/- How a slice of entries that came in is opened. -/
import Derived.Test.YtobgolceggeogaaLedA
import Derived.Test.YtobgolceggeogaaVecO
import Derived.Deep.Slices
import Derived.SizedLaws
import Derived.ChangeSame
namespace Go.Proofs.Ytobgolceggeogaa
open Go.ChangeShapes Go.WideShapes Go.ChangeAt Go.RowKit
theorem cellsE : Try.prog.cellsOf 31 = 5 := by kernel_rfl
theorem cellsStr : Try.prog.cellsOf 9 = 1 := by kernel_rfl
set_option maxRecDepth 100000 in
theorem trod_ent {H : Type} {enc : TypeId × Value → H} {W : World} {b0 fuel : Nat} {sp : Nat → Bool} {held : Bool} {cs : List Value} {x : DataW H × List MemPlace}
    (h : DataW.trod enc Try.prog W b0 sp held fuel 31 cs = some x) : ∃ (s : ByteArray) (a b c e : Int), cs = [.string s, .int .i64 a, .int .i64 b, .int .i64 c, .int .i64 e] ∧ s.size ≤ maxLen := by
  obtain ⟨z0, z1, n, _, hl, h0', h1'⟩ := trod_struct2 Try.underlying31 h
  rw [cellsE] at hl
  have h0 : DataW.trod enc Try.prog W b0 sp held n 9 ((cs.drop 0).take (Try.prog.cellsOf 9)) = some z0 := h0'
  have h1 : DataW.trod enc Try.prog W b0 sp held n 29 ((cs.drop 1).take (Try.prog.cellsOf 29)) = some z1 := h1'
  clear h0' h1'
  rw [cellsStr] at h0
  rw [cellsV] at h1
  match cs, hl with
  | [c0, c1, c2, c3, c4], _ =>
    simp only [List.drop_zero, List.take_succ_cons, List.take_zero, List.drop_succ_cons] at h0 h1
    obtain ⟨s, e0, _, hs⟩ := DataW.trod_string Try.underlying9 h0
    obtain ⟨a, b, c, e, e1⟩ := trod_vec h1
    simp at e0 e1
    obtain ⟨rfl, rfl, rfl, rfl⟩ := e1
    subst e0
    exact ⟨s, a, b, c, e, rfl, hs⟩
theorem listE_of {P : Nat → Ent → Prop} : ∀ n, (∀ i, i < n → ∃ v, P i v) → ∃ l : List Ent, l.length = n ∧ ∀ i, (h : i < l.length) → P i l[i]
  | 0, _ => ⟨[], rfl, fun i h => by simp at h⟩
  | n + 1, h => by
    obtain ⟨l, hl, hp⟩ := listE_of n (fun i hi => h i (by omega))
    obtain ⟨v, hv⟩ := h n (by omega)
    refine ⟨l ++ [v], by simp [hl], fun i hi => ?_⟩
    by_cases e : i < l.length
    · rw [List.getElem_append_left e]; exact hp i e
    · have : i = n := by simp at hi; omega
      subst this
      rw [List.getElem_append_right (by omega)]
      simpa [hl] using hv
set_option maxRecDepth 100000 in
/-- The cells of a slice of entries, read at any depth. -/
theorem trod_ents {H : Type} {enc : TypeId × Value → H} {W : World} {b0 fuel : Nat} {sp : Nat → Bool} {held : Bool} {A : Option Addr} {n cap : Nat} {x : DataW H × List MemPlace}
    (hf : DataW.trod enc Try.prog W b0 sp held fuel 22 [.slice A n cap] = some x) : ∃ l : List Ent, SlE W A n l ∧ n ≤ cap ∧ cap ≤ maxLen := by
  rcases Go.Deep.open_slice Try.underlying22 hf with ⟨hcs, _⟩ | ⟨a, len, cap', m, nn, D, Pl, hcs, _, hle, hmx, hmm, hx, hel⟩
  · simp at hcs
    obtain ⟨rfl, rfl, rfl⟩ := hcs
    exact ⟨[], ⟨rfl, .inl rfl⟩, by omega, by unfold maxLen; omega⟩
  · simp at hcs
    obtain ⟨rfl, rfl, rfl⟩ := hcs
    have hnm : n ≤ m := by rw [hmm]; split <;> omega
    have key : ∀ i, i < n → ∃ v : Ent, v.1.size ≤ maxLen ∧ W.cell? (a.add (i * 5)) = some (.string v.1) ∧ W.cell? ((a.add (i * 5)).add 1) = some (.int .i64 v.2.1) ∧ W.cell? ((a.add (i * 5)).add 2) = some (.int .i64 v.2.2.1) ∧ W.cell? ((a.add (i * 5)).add 3) = some (.int .i64 v.2.2.2.1) ∧ W.cell? ((a.add (i * 5)).add 4) = some (.int .i64 v.2.2.2.2) := by
      intro i hi
      obtain ⟨cs', h1, h2⟩ := hel i (by omega)
      rw [cellsE] at h1
      obtain ⟨s, x0, x1, x2, x3, rfl, hs⟩ := trod_ent h2
      obtain ⟨_, _, h3⟩ := World.cells?_some h1
      have q0 := h3 0 (by omega)
      have q1 := h3 1 (by omega)
      have q2 := h3 2 (by omega)
      have q3 := h3 3 (by omega)
      have q4 := h3 4 (by omega)
      simp at q0 q1 q2 q3 q4
      refine ⟨(s, x0, x1, x2, x3), hs, ?_, q1, q2, q3, q4⟩
      have e0 : (a.add (i * 5)).add 0 = a.add (i * 5) := by simp [Addr.add]
      rw [e0] at q0; exact q0
    obtain ⟨l, hl, hp⟩ := listE_of n key
    obtain ⟨b, off, spot⟩ := a
    refine ⟨l, ⟨hl.symm, ?_⟩, hle, hmx⟩
    by_cases h0 : l = []
    · exact .inl h0
    · have hpos : 0 < l.length := List.length_pos_iff.2 h0
      have hs : spot = none := by
        have := World.cell?_spot (hp 0 hpos).2.1
        simpa [Addr.add] using this
      subst hs
      refine .inr ⟨b, off, rfl, ?_, ?_⟩
      · have := World.block_lt_of_cell? W _ (hp 0 hpos).2.1
        simpa [Addr.add] using this
      · intro k hk
        obtain ⟨pz, p0, p1, p2, p3, p4⟩ := hp k hk
        have hadd : ∀ (o i : Nat), (⟨b, o, none⟩ : Addr).add i = ⟨b, o + i, none⟩ := by intro o i; unfold Addr.add; split <;> simp_all
        simp only [hadd] at p0 p1 p2 p3 p4
        exact ⟨pz, p0, p1, p2, p3, p4⟩
set_option maxRecDepth 100000 in
/-- A slice of entries that came in, opened. -/
theorem open_ents {H : Type} {enc : TypeId × Value → H} {W : World} {base b0 : Nat} {r : Reach} {sp : Nat → Bool} {held : Bool} {v : Value} {d : DataW H} {p : List MemPlace}
    (hv : Value.okWide Try.prog W r base 22 v) (h : DataW.Trod enc Try.prog W b0 sp held 22 v d p) :
    ∃ (A : Option Addr) (n cap : Nat) (l : List Ent), v = .slice A n cap ∧ SlE W A n l ∧ n ≤ cap ∧ cap ≤ maxLen := by
  obtain ⟨A, n, cap, rfl⟩ := okWide_slice Try.underlying22 hv
  obtain ⟨fuel, hf⟩ := h
  obtain ⟨l, hl⟩ := trod_ents (A := A) (n := n) (cap := cap) hf
  exact ⟨A, n, cap, l, rfl, hl⟩
set_option maxRecDepth 100000 in
theorem open_str {H : Type} {enc : TypeId × Value → H} {W : World} {base b0 : Nat} {r : Reach} {sp : Nat → Bool} {held : Bool} {v : Value} {d : DataW H} {p : List MemPlace}
    (hv : Value.okWide Try.prog W r base 9 v) (h : DataW.Trod enc Try.prog W b0 sp held 9 v d p) : ∃ s : ByteArray, v = .string s ∧ s.size ≤ maxLen := by
  obtain ⟨s, rfl⟩ := okWide_string Try.underlying9 hv
  obtain ⟨fuel, hf⟩ := h
  obtain ⟨s', h1, _, hs⟩ := DataW.trod_string Try.underlying9 hf
  simp [Value.cells] at h1
  subst h1
  exact ⟨s, rfl, hs⟩
theorem bounds_u8 {n : Int} (h : (Lit.int .u8 n).wf = true) : 0 ≤ n ∧ n ≤ 255 := by
  simp only [Lit.wf, Bool.and_eq_true, decide_eq_true_eq] at h
  obtain ⟨h0, h1⟩ := h
  exact ⟨h0, h1⟩
end Go.Proofs.Ytobgolceggeogaa
