/- Chapter 19: how a script of calls is opened. -/
import Derived.Test.YtkplhobiciddoaaTimQ
namespace Go.Proofs.Ytkplhobiciddoaa
open Go.ChangeShapes Go.WideShapes Go.ChangeAt Go.RowKit
/-- A step of the script. -/
structure OpW where
  kind : Int
  name : ByteArray
  epoch : Int
  now : Int
  v : V
theorem cellsOp : Try.prog.cellsOf 41 = 8 := by kernel_rfl
theorem cellsIn : Try.prog.cellsOf 3 = 1 := by kernel_rfl
def cellsW (o : OpW) : List Value := [.int .i64 o.kind, .string o.name, .int .i64 o.epoch, .int .i64 o.now, .int .i64 o.v.1, .int .i64 o.v.2.1, .int .i64 o.v.2.2.1, .int .i64 o.v.2.2.2]
/-- What came in of a step. -/
def OkW (o : OpW) : Prop := o.name.size ≤ maxLen ∧ (-9223372036854775808 ≤ o.now ∧ o.now ≤ 9223372036854775807)
/-- The script at A, of n steps, is the list l. -/
def SlW (W : World) (A : Option Addr) (n : Nat) (l : List OpW) : Prop :=
  n = l.length ∧ (l = [] ∨ ∃ b off, A = some ⟨b, off, none⟩ ∧ b < W.heap.size ∧ ∀ k, (h : k < l.length) → ∀ c, c < 8 → W.cell? ⟨b, off + k * 8 + c, none⟩ = (cellsW l[k])[c]?) ∧ ∀ x ∈ l, OkW x
set_option maxRecDepth 100000 in
theorem trod_opw {H : Type} {enc : TypeId × Value → H} {W : World} {b0 fuel : Nat} {sp : Nat → Bool} {held : Bool} {cs : List Value} {x : DataW H × List MemPlace}
    (h : DataW.trod enc Try.prog W b0 sp held fuel 41 cs = some x) : ∃ o : OpW, cs = cellsW o ∧ OkW o := by
  obtain ⟨xs, n, _, _, hl, hlen, hf⟩ := DataW.trod_struct Try.underlying41 h
  rw [cellsOp] at hl
  match xs, hlen with
  | [z0, z1, z2, z3, z4], _ =>
    have h0 : DataW.trod enc Try.prog W b0 sp held n 3 ((cs.drop 0).take (Try.prog.cellsOf 3)) = some z0 := hf 0 _ rfl
    have h1 : DataW.trod enc Try.prog W b0 sp held n 9 ((cs.drop 1).take (Try.prog.cellsOf 9)) = some z1 := hf 1 _ rfl
    have h2 : DataW.trod enc Try.prog W b0 sp held n 2 ((cs.drop 2).take (Try.prog.cellsOf 2)) = some z2 := hf 2 _ rfl
    have h3 : DataW.trod enc Try.prog W b0 sp held n 2 ((cs.drop 3).take (Try.prog.cellsOf 2)) = some z3 := hf 3 _ rfl
    have h4 : DataW.trod enc Try.prog W b0 sp held n 25 ((cs.drop 4).take (Try.prog.cellsOf 25)) = some z4 := hf 4 _ rfl
    clear hf
    rw [cellsIn] at h0
    rw [cellsStr] at h1
    rw [cellsI] at h2 h3
    rw [cellsV] at h4
    match cs, hl with
    | [c0, c1, c2, c3, c4, c5, c6, c7], _ =>
      simp only [List.drop_zero, List.take_succ_cons, List.take_zero, List.drop_succ_cons] at h0 h1 h2 h3 h4
      obtain ⟨k, q0, _, _⟩ := DataW.trod_int Try.underlying3 h0
      obtain ⟨s, q1, _, hs⟩ := DataW.trod_string Try.underlying9 h1
      obtain ⟨ep, q2, _, _⟩ := DataW.trod_int Try.underlying2 h2
      obtain ⟨nw, q3, _, hw⟩ := DataW.trod_int Try.underlying2 h3
      obtain ⟨a, b, c, e, q4⟩ := trod_vec h4
      simp at q0 q1 q2 q3 q4
      obtain ⟨rfl, rfl, rfl, rfl⟩ := q4
      subst q0 q1 q2 q3
      exact ⟨⟨k, s, ep, nw, a, b, c, e⟩, rfl, hs, bounds_i64 hw⟩
set_option maxRecDepth 100000 in
theorem open_opw {H : Type} {enc : TypeId × Value → H} {W : World} {base b0 : Nat} {r : Reach} {sp : Nat → Bool} {held : Bool} {v : Value} {d : DataW H} {p : List MemPlace}
    (hv : Value.okWide Try.prog W r base 39 v) (h : DataW.Trod enc Try.prog W b0 sp held 39 v d p) :
    ∃ (A : Option Addr) (n cap : Nat) (l : List OpW), v = .slice A n cap ∧ SlW W A n l ∧ n ≤ cap ∧ cap ≤ maxLen := by
  obtain ⟨A, n, cap, rfl⟩ := okWide_slice Try.underlying39 hv
  obtain ⟨fuel, hf⟩ := h
  rcases Go.Deep.open_slice Try.underlying39 hf with ⟨hcs, _⟩ | ⟨a, len, cap', m, nn, D, Pl, hcs, _, hle, hmx, hmm, hx, hel⟩
  · simp [Value.cells] at hcs
    obtain ⟨rfl, rfl, rfl⟩ := hcs
    exact ⟨none, 0, 0, [], rfl, ⟨rfl, .inl rfl, (fun _ h => nomatch h)⟩, by omega, by unfold maxLen; omega⟩
  · simp [Value.cells] at hcs
    obtain ⟨rfl, rfl, rfl⟩ := hcs
    have hnm : n ≤ m := by rw [hmm]; split <;> omega
    have key : ∀ i, i < n → ∃ v : OpW, (∀ c, c < 8 → W.cell? ((a.add (i * 8)).add c) = (cellsW v)[c]?) ∧ OkW v := by
      intro i hi
      obtain ⟨cs', h1, h2⟩ := hel i (by omega)
      rw [cellsOp] at h1
      obtain ⟨o, rfl, hr⟩ := trod_opw h2
      obtain ⟨_, _, h3⟩ := World.cells?_some h1
      exact ⟨o, fun c hc => h3 c (by simpa [cellsW] using hc), hr⟩
    obtain ⟨l, hl, hp⟩ := list1_of n key
    obtain ⟨b, off, spot⟩ := a
    refine ⟨_, n, cap, l, rfl, ⟨hl.symm, ?_, fun x hx => ?_⟩, hle, hmx⟩
    · by_cases h0 : l = []
      · exact .inl h0
      · have hpos : 0 < l.length := List.length_pos_iff.2 h0
        have h00 : W.cell? (((⟨b, off, spot⟩ : Addr).add (0 * 8)).add 0) = some (.int .i64 l[0].kind) := (hp 0 hpos).1 0 (by omega)
        have hs : spot = none := by
          have := World.cell?_spot h00
          simpa [Addr.add] using this
        subst hs
        refine .inr ⟨b, off, rfl, ?_, ?_⟩
        · have := World.block_lt_of_cell? W _ h00
          simpa [Addr.add] using this
        · intro k hk c hc
          have p0 := (hp k hk).1 c hc
          have hadd : ∀ (o i : Nat), (⟨b, o, none⟩ : Addr).add i = ⟨b, o + i, none⟩ := by intro o i; unfold Addr.add; split <;> simp_all
          simp only [hadd] at p0
          exact p0
    · obtain ⟨i, hi, rfl⟩ := List.mem_iff_getElem.1 hx
      exact (hp i hi).2
/-- What a walk wants of a step. -/
theorem SlW.at {W W' : World} {A : Option Addr} {n : Nat} {l : List OpW} (h : SlW W A n l) {B : Nat} (hb : Below B W W') (hB : W.heap.size ≤ B) {j : Nat} (hj : j < n) :
    ∃ (o : OpW) (b off : Nat), A = some ⟨b, off, none⟩ ∧ b < W'.heap.size ∧ OkW o ∧ (∀ c, c < 8 → W'.cell? ⟨b, off + j * 8 + c, none⟩ = (cellsW o)[c]?) ∧ l[j]? = some o := by
  obtain ⟨h1, h2 | ⟨b, off, h3, h4, h5⟩, h6⟩ := h
  · rw [h2] at h1; simp at h1; omega
  · have hj' : j < l.length := by omega
    refine ⟨l[j], b, off, h3, Nat.lt_of_lt_of_le h4 hb.size, h6 _ (List.getElem_mem _), fun c hc => ?_, List.getElem?_eq_getElem hj'⟩
    rw [hb.cell (p := ⟨b, off + j * 8 + c, none⟩) (Nat.lt_of_lt_of_le h4 hB)]
    exact h5 j hj' c hc
end Go.Proofs.Ytkplhobiciddoaa
