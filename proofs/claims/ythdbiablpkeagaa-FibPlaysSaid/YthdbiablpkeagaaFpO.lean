/- FibPlays: how the script is opened. -/
import Derived.Test.YthdbiablpkeagaaFpN
import Derived.Test.YthdbiablpkeagaaFibU
namespace Go.Proofs.Ythdbiablpkeagaa
open Go.ChangeShapes Go.WideShapes Go.ChangeAt Go.RowKit
/-- A step of the script: its kind, its two numbers, its key. -/
abbrev OpF := Int × Int × Int × K3
/-- The script at A, of n steps, is the list l. -/
def SlF (W : World) (A : Option Addr) (n : Nat) (l : List OpF) : Prop :=
  n = l.length ∧ (l = [] ∨ ∃ b off, A = some ⟨b, off, none⟩ ∧ b < W.heap.size ∧ ∀ k, (h : k < l.length) → W.cell? ⟨b, off + k * 6, none⟩ = some (.int .i64 l[k].1) ∧ W.cell? ⟨b, off + k * 6 + 1, none⟩ = some (.int .i64 l[k].2.1) ∧ W.cell? ⟨b, off + k * 6 + 2, none⟩ = some (.int .i64 l[k].2.2.1) ∧
    W.cell? ⟨b, off + k * 6 + 3, none⟩ = some (.int .u64 l[k].2.2.2.1) ∧ W.cell? ⟨b, off + k * 6 + 4, none⟩ = some (.int .u64 l[k].2.2.2.2.1) ∧ W.cell? ⟨b, off + k * 6 + 5, none⟩ = some (.int .i64 l[k].2.2.2.2.2)) ∧ ∀ x ∈ l, okW x.2.2.2
theorem cellsP : Try.prog.cellsOf 60 = 6 := by kernel_rfl
theorem cellsInt : Try.prog.cellsOf 3 = 1 := by kernel_rfl
set_option maxRecDepth 100000 in
theorem trod_opf {H : Type} {enc : TypeId × Value → H} {W : World} {b0 fuel : Nat} {sp : Nat → Bool} {held : Bool} {cs : List Value} {x : DataW H × List MemPlace}
    (h : DataW.trod enc Try.prog W b0 sp held fuel 60 cs = some x) : ∃ o : OpF, cs = [.int .i64 o.1, .int .i64 o.2.1, .int .i64 o.2.2.1, .int .u64 o.2.2.2.1, .int .u64 o.2.2.2.2.1, .int .i64 o.2.2.2.2.2] ∧ okW o.2.2.2 := by
  obtain ⟨xs, n, _, _, hl, hlen, hf⟩ := DataW.trod_struct Try.underlying60 h
  rw [cellsP] at hl
  match xs, hlen with
  | [z0, z1, z2, z3], _ =>
    have h0 : DataW.trod enc Try.prog W b0 sp held n 3 ((cs.drop 0).take (Try.prog.cellsOf 3)) = some z0 := hf 0 _ rfl
    have h1 : DataW.trod enc Try.prog W b0 sp held n 3 ((cs.drop 1).take (Try.prog.cellsOf 3)) = some z1 := hf 1 _ rfl
    have h2 : DataW.trod enc Try.prog W b0 sp held n 3 ((cs.drop 2).take (Try.prog.cellsOf 3)) = some z2 := hf 2 _ rfl
    have h3 : DataW.trod enc Try.prog W b0 sp held n 33 ((cs.drop 3).take (Try.prog.cellsOf 33)) = some z3 := hf 3 _ rfl
    clear hf
    rw [cellsInt] at h0 h1 h2
    rw [cellsK] at h3
    match cs, hl with
    | [c0, c1, c2, c3, c4, c5], _ =>
      simp only [List.drop_zero, List.take_succ_cons, List.take_zero, List.drop_succ_cons] at h0 h1 h2 h3
      obtain ⟨k, q0, _, _⟩ := DataW.trod_int Try.underlying3 h0
      obtain ⟨s, q1, _, _⟩ := DataW.trod_int Try.underlying3 h1
      obtain ⟨t, q2, _, _⟩ := DataW.trod_int Try.underlying3 h2
      obtain ⟨a, b, c, q3, w1, w2⟩ := trod_key h3
      simp at q0 q1 q2 q3
      obtain ⟨q3, q4, q5⟩ := q3
      subst q0 q1 q2 q3 q4 q5
      exact ⟨⟨k, s, t, a, b, c⟩, rfl, w1.1, w1.2, w2.1, w2.2⟩
set_option maxRecDepth 100000 in
theorem open_opf {H : Type} {enc : TypeId × Value → H} {W : World} {base b0 : Nat} {r : Reach} {sp : Nat → Bool} {held : Bool} {v : Value} {d : DataW H} {p : List MemPlace}
    (hv : Value.okWide Try.prog W r base 51 v) (h : DataW.Trod enc Try.prog W b0 sp held 51 v d p) :
    ∃ (A : Option Addr) (n cap : Nat) (l : List OpF), v = .slice A n cap ∧ SlF W A n l ∧ n ≤ cap ∧ cap ≤ maxLen := by
  obtain ⟨A, n, cap, rfl⟩ := okWide_slice Try.underlying51 hv
  obtain ⟨fuel, hf⟩ := h
  rcases Go.Deep.open_slice Try.underlying51 hf with ⟨hcs, _⟩ | ⟨a, len, cap', m, nn, D, Pl, hcs, _, hle, hmx, hmm, hx, hel⟩
  · simp [Value.cells] at hcs
    obtain ⟨rfl, rfl, rfl⟩ := hcs
    exact ⟨none, 0, 0, [], rfl, ⟨rfl, .inl rfl, (fun _ h => nomatch h)⟩, by omega, by unfold maxLen; omega⟩
  · simp [Value.cells] at hcs
    obtain ⟨rfl, rfl, rfl⟩ := hcs
    have hnm : n ≤ m := by rw [hmm]; split <;> omega
    have key : ∀ i, i < n → ∃ v : OpF, W.cell? (a.add (i * 6)) = some (.int .i64 v.1) ∧ W.cell? ((a.add (i * 6)).add 1) = some (.int .i64 v.2.1) ∧ W.cell? ((a.add (i * 6)).add 2) = some (.int .i64 v.2.2.1) ∧ W.cell? ((a.add (i * 6)).add 3) = some (.int .u64 v.2.2.2.1) ∧ W.cell? ((a.add (i * 6)).add 4) = some (.int .u64 v.2.2.2.2.1) ∧ W.cell? ((a.add (i * 6)).add 5) = some (.int .i64 v.2.2.2.2.2) ∧ okW v.2.2.2 := by
      intro i hi
      obtain ⟨cs', h1, h2⟩ := hel i (by omega)
      rw [cellsP] at h1
      obtain ⟨o, rfl, hr⟩ := trod_opf h2
      obtain ⟨_, _, h3⟩ := World.cells?_some h1
      have q0 := h3 0 (by omega)
      have q1 := h3 1 (by omega)
      have q2 := h3 2 (by omega)
      have q3 := h3 3 (by omega)
      have q4 := h3 4 (by omega)
      have q5 := h3 5 (by omega)
      simp at q0 q1 q2 q3 q4 q5
      refine ⟨o, ?_, q1, q2, q3, q4, q5, hr⟩
      have e0 : (a.add (i * 6)).add 0 = a.add (i * 6) := by simp [Addr.add]
      rw [e0] at q0; exact q0
    obtain ⟨l, hl, hp⟩ := list1_of n key
    obtain ⟨b, off, spot⟩ := a
    refine ⟨_, n, cap, l, rfl, ⟨hl.symm, ?_, fun x hx => ?_⟩, hle, hmx⟩
    · by_cases h0 : l = []
      · exact .inl h0
      · have hpos : 0 < l.length := List.length_pos_iff.2 h0
        have hs : spot = none := by
          have := World.cell?_spot (hp 0 hpos).1
          simpa [Addr.add] using this
        subst hs
        refine .inr ⟨b, off, rfl, ?_, ?_⟩
        · have := World.block_lt_of_cell? W _ (hp 0 hpos).1
          simpa [Addr.add] using this
        · intro k hk
          obtain ⟨p0, p1, p2, p3, p4, p5, -⟩ := hp k hk
          have hadd : ∀ (o i : Nat), (⟨b, o, none⟩ : Addr).add i = ⟨b, o + i, none⟩ := by intro o i; unfold Addr.add; split <;> simp_all
          simp only [hadd] at p0 p1 p2 p3 p4 p5
          exact ⟨p0, p1, p2, p3, p4, p5⟩
    · obtain ⟨i, hi, rfl⟩ := List.mem_iff_getElem.1 hx
      exact (hp i hi).2.2.2.2.2.2
theorem SlF.one {w wr : World} {A : Option Addr} {n k : Nat} {l : List OpF} (h : SlF w A n l) (hb : Below w.heap.size w wr) (hk : k < n) :
    ∃ (x : OpF) (b off : Nat), okW x.2.2.2 ∧ A = some ⟨b, off, none⟩ ∧ b < w.heap.size ∧ wr.cell? ⟨b, off + k * 6, none⟩ = some (.int .i64 x.1) ∧ wr.cell? ⟨b, off + k * 6 + 1, none⟩ = some (.int .i64 x.2.1) ∧ wr.cell? ⟨b, off + k * 6 + 2, none⟩ = some (.int .i64 x.2.2.1) ∧ wr.cell? ⟨b, off + k * 6 + 3, none⟩ = some (.int .u64 x.2.2.2.1) ∧ wr.cell? ⟨b, off + k * 6 + 4, none⟩ = some (.int .u64 x.2.2.2.2.1) ∧ wr.cell? ⟨b, off + k * 6 + 5, none⟩ = some (.int .i64 x.2.2.2.2.2) := by
  obtain ⟨rfl, rfl | ⟨b, off, rfl, hbl, hh⟩, hw⟩ := h
  · simp at hk
  · obtain ⟨h0, h1, h2, h3, h4, h5⟩ := hh k hk
    exact ⟨l[k], b, off, hw _ (List.getElem_mem hk), rfl, hbl, by rw [hb.cell hbl]; exact h0, by rw [hb.cell hbl]; exact h1, by rw [hb.cell hbl]; exact h2, by rw [hb.cell hbl]; exact h3, by rw [hb.cell hbl]; exact h4, by rw [hb.cell hbl]; exact h5⟩
end Go.Proofs.Ythdbiablpkeagaa
