/- Chapter 10: how TimerPlays' script is opened. -/
import Derived.Test.YtacffoobeebleaaTimQ
namespace Go.Proofs.Ytacffoobeebleaa
open Go.ChangeShapes Go.WideShapes Go.ChangeAt Go.RowKit
/-- A step of the script: its kind, its name, its tick. -/
abbrev OpT := Int × ByteArray × Int
/-- The script at A, of n steps, is the list l. -/
def SlP (W : World) (A : Option Addr) (n : Nat) (l : List OpT) : Prop :=
  n = l.length ∧ (l = [] ∨ ∃ b off, A = some ⟨b, off, none⟩ ∧ b < W.heap.size ∧ ∀ k, (h : k < l.length) → W.cell? ⟨b, off + k * 3, none⟩ = some (.int .i64 l[k].1) ∧ W.cell? ⟨b, off + k * 3 + 1, none⟩ = some (.string l[k].2.1) ∧ W.cell? ⟨b, off + k * 3 + 2, none⟩ = some (.int .i64 l[k].2.2)) ∧ ∀ x ∈ l, x.2.1.size ≤ maxLen
theorem cellsP : Try.prog.cellsOf 49 = 3 := by kernel_rfl
theorem cellsI : Try.prog.cellsOf 3 = 1 := by kernel_rfl
theorem cellsL : Try.prog.cellsOf 2 = 1 := by kernel_rfl
set_option maxRecDepth 100000 in
theorem trod_opt {H : Type} {enc : TypeId × Value → H} {W : World} {b0 fuel : Nat} {sp : Nat → Bool} {held : Bool} {cs : List Value} {x : DataW H × List MemPlace}
    (h : DataW.trod enc Try.prog W b0 sp held fuel 49 cs = some x) : ∃ o : OpT, cs = [.int .i64 o.1, .string o.2.1, .int .i64 o.2.2] ∧ o.2.1.size ≤ maxLen := by
  obtain ⟨xs, n, _, _, hl, hlen, hf⟩ := DataW.trod_struct Try.underlying49 h
  rw [cellsP] at hl
  match xs, hlen with
  | [z0, z1, z2], _ =>
    have h0 : DataW.trod enc Try.prog W b0 sp held n 3 ((cs.drop 0).take (Try.prog.cellsOf 3)) = some z0 := hf 0 _ rfl
    have h1 : DataW.trod enc Try.prog W b0 sp held n 9 ((cs.drop 1).take (Try.prog.cellsOf 9)) = some z1 := hf 1 _ rfl
    have h2 : DataW.trod enc Try.prog W b0 sp held n 2 ((cs.drop 2).take (Try.prog.cellsOf 2)) = some z2 := hf 2 _ rfl
    clear hf
    rw [cellsI] at h0
    rw [cellsStr] at h1
    rw [cellsL] at h2
    match cs, hl with
    | [c0, c1, c2], _ =>
      simp only [List.drop_zero, List.take_succ_cons, List.take_zero, List.drop_succ_cons] at h0 h1 h2
      obtain ⟨k, q0, _, _⟩ := DataW.trod_int Try.underlying3 h0
      obtain ⟨s, q1, _, hs⟩ := DataW.trod_string Try.underlying9 h1
      obtain ⟨t, q2, _, _⟩ := DataW.trod_int Try.underlying2 h2
      simp at q0 q1 q2
      subst q0 q1 q2
      exact ⟨⟨k, s, t⟩, rfl, hs⟩
set_option maxRecDepth 100000 in
theorem open_opts {H : Type} {enc : TypeId × Value → H} {W : World} {base b0 : Nat} {r : Reach} {sp : Nat → Bool} {held : Bool} {v : Value} {d : DataW H} {p : List MemPlace}
    (hv : Value.okWide Try.prog W r base 42 v) (h : DataW.Trod enc Try.prog W b0 sp held 42 v d p) :
    ∃ (A : Option Addr) (n cap : Nat) (l : List OpT), v = .slice A n cap ∧ SlP W A n l ∧ n ≤ cap ∧ cap ≤ maxLen := by
  obtain ⟨A, n, cap, rfl⟩ := okWide_slice Try.underlying42 hv
  obtain ⟨fuel, hf⟩ := h
  rcases Go.Deep.open_slice Try.underlying42 hf with ⟨hcs, _⟩ | ⟨a, len, cap', m, nn, D, Pl, hcs, _, hle, hmx, hmm, hx, hel⟩
  · simp [Value.cells] at hcs
    obtain ⟨rfl, rfl, rfl⟩ := hcs
    exact ⟨none, 0, 0, [], rfl, ⟨rfl, .inl rfl, (fun _ h => nomatch h)⟩, by omega, by unfold maxLen; omega⟩
  · simp [Value.cells] at hcs
    obtain ⟨rfl, rfl, rfl⟩ := hcs
    have hnm : n ≤ m := by rw [hmm]; split <;> omega
    have key : ∀ i, i < n → ∃ v : OpT, W.cell? (a.add (i * 3)) = some (.int .i64 v.1) ∧ W.cell? ((a.add (i * 3)).add 1) = some (.string v.2.1) ∧ W.cell? ((a.add (i * 3)).add 2) = some (.int .i64 v.2.2) ∧ v.2.1.size ≤ maxLen := by
      intro i hi
      obtain ⟨cs', h1, h2⟩ := hel i (by omega)
      rw [cellsP] at h1
      obtain ⟨o, rfl, hr⟩ := trod_opt h2
      obtain ⟨_, _, h3⟩ := World.cells?_some h1
      have q0 := h3 0 (by omega)
      have q1 := h3 1 (by omega)
      have q2 := h3 2 (by omega)
      simp at q0 q1 q2
      refine ⟨o, ?_, q1, q2, hr⟩
      have e0 : (a.add (i * 3)).add 0 = a.add (i * 3) := by simp [Addr.add]
      rw [e0] at q0; exact q0
    obtain ⟨l, hl, hp⟩ := list1_of n key
    obtain ⟨b, off, spot⟩ := a
    refine ⟨_, n, cap, l, rfl, ⟨hl.symm, ?_, fun x hx => ?_⟩, hle, hmx⟩
    · by_cases h0 : l = []
      · exact .inl h0
      · have hpos : 0 < l.length := List.length_pos_iff.2 h0
        have hs : spot = none := by
          have := World.cell?_spot (hp 0 hpos).1
          simpa [Addr.add] using this
        subst hs
        refine .inr ⟨b, off, rfl, ?_, ?_⟩
        · have := World.block_lt_of_cell? W _ (hp 0 hpos).1
          simpa [Addr.add] using this
        · intro k hk
          obtain ⟨p0, p1, p2, -⟩ := hp k hk
          have hadd : ∀ (o i : Nat), (⟨b, o, none⟩ : Addr).add i = ⟨b, o + i, none⟩ := by intro o i; unfold Addr.add; split <;> simp_all
          simp only [hadd] at p0 p1 p2
          exact ⟨p0, p1, p2⟩
    · obtain ⟨i, hi, rfl⟩ := List.mem_iff_getElem.1 hx
      exact (hp i hi).2.2.2
end Go.Proofs.Ytacffoobeebleaa
