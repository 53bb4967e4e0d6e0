/- Chapter 19: how a script of calls is opened, its names within the reach. -/
import Derived.Test.YtkplhobiciddoaaWkP
import Derived.SizedLaws
namespace Go.Proofs.Ytkplhobiciddoaa
open Go.ChangeShapes Go.WideShapes Go.ChangeAt Go.RowKit
theorem wall_mem {H : Type} {P : Program} {e : TypeId} {d : DataW H} {n : Nat} : ∀ {l : List (DataW H)}, d ∈ l → n ∈ d.weights P e → n ∈ DataW.weightsAll P e l
  | [], h, _ => nomatch h
  | y :: l, h, hn => by
    simp only [DataW.weightsAll, List.mem_append]
    rcases List.mem_cons.1 h with rfl | h
    · exact .inl hn
    · exact .inr (wall_mem h hn)
set_option maxRecDepth 100000 in
theorem trod_opw_s {H : Type} {enc : TypeId × Value → H} {W : World} {b0 fuel : Nat} {sp : Nat → Bool} {held : Bool} {cs : List Value} {x : DataW H × List MemPlace}
    (h : DataW.trod enc Try.prog W b0 sp held fuel 41 cs = some x) : ∃ o : OpW, cs = cellsW o ∧ OkW o ∧ o.name.size ∈ x.1.weights Try.prog 41 := by
  obtain ⟨xs, n, _, hxe, hl, hlen, hf⟩ := DataW.trod_struct Try.underlying41 h
  rw [cellsOp] at hl
  match xs, hlen with
  | [z0, z1, z2, z3, z4], _ =>
    have h0 : DataW.trod enc Try.prog W b0 sp held n 3 ((cs.drop 0).take (Try.prog.cellsOf 3)) = some z0 := hf 0 _ rfl
    have h1 : DataW.trod enc Try.prog W b0 sp held n 9 ((cs.drop 1).take (Try.prog.cellsOf 9)) = some z1 := hf 1 _ rfl
    have h2 : DataW.trod enc Try.prog W b0 sp held n 2 ((cs.drop 2).take (Try.prog.cellsOf 2)) = some z2 := hf 2 _ rfl
    have h3 : DataW.trod enc Try.prog W b0 sp held n 2 ((cs.drop 3).take (Try.prog.cellsOf 2)) = some z3 := hf 3 _ rfl
    have h4 : DataW.trod enc Try.prog W b0 sp held n 25 ((cs.drop 4).take (Try.prog.cellsOf 25)) = some z4 := hf 4 _ rfl
    clear hf
    rw [cellsIn] at h0
    rw [cellsStr] at h1
    rw [cellsI] at h2 h3
    rw [cellsV] at h4
    match cs, hl with
    | [c0, c1, c2, c3, c4, c5, c6, c7], _ =>
      simp only [List.drop_zero, List.take_succ_cons, List.take_zero, List.drop_succ_cons] at h0 h1 h2 h3 h4
      obtain ⟨k, q0, _, _⟩ := DataW.trod_int Try.underlying3 h0
      obtain ⟨s, q1, rfl, hs⟩ := DataW.trod_string Try.underlying9 h1
      obtain ⟨ep, q2, _, _⟩ := DataW.trod_int Try.underlying2 h2
      obtain ⟨nw, q3, _, hw⟩ := DataW.trod_int Try.underlying2 h3
      obtain ⟨a, b, c, e, q4⟩ := trod_vec h4
      simp at q0 q1 q2 q3 q4
      obtain ⟨rfl, rfl, rfl, rfl⟩ := q4
      subst q0 q1 q2 q3
      exact ⟨⟨k, s, ep, nw, a, b, c, e⟩, rfl, ⟨hs, bounds_i64 hw⟩, by
        rw [hxe]
        simp only [DataW.weights, Try.underlying41, List.map_cons, List.map_nil, DataW.weightsEach, List.mem_append, List.mem_singleton]
        exact .inr (.inl (by rw [Array.length_toList]; rfl))⟩
set_option maxRecDepth 100000 in
theorem open_opw_s {H : Type} {enc : TypeId × Value → H} {W : World} {base b0 : Nat} {r : Reach} {sp : Nat → Bool} {held : Bool} {v : Value} {d : DataW H} {p : List MemPlace}
    (hv : Value.okWide Try.prog W r base 39 v) (h : DataW.Trod enc Try.prog W b0 sp held 39 v d p) (hsz : ∀ m ∈ d.weights Try.prog 39, m ≤ reachBytes) :
    ∃ (A : Option Addr) (n cap : Nat) (l : List OpW), v = .slice A n cap ∧ SlW W A n l ∧ n ≤ cap ∧ cap ≤ maxLen ∧ ∀ x ∈ l, x.name.size ≤ 281474976710656 := by
  obtain ⟨A, n, cap, rfl⟩ := okWide_slice Try.underlying39 hv
  obtain ⟨fuel, hf⟩ := h
  rcases Go.Deep.open_slice Try.underlying39 hf with ⟨hcs, _⟩ | ⟨a, len, cap', m, nn, D, Pl, hcs, _, hle, hmx, hmm, hx, hel⟩
  · simp [Value.cells] at hcs
    obtain ⟨rfl, rfl, rfl⟩ := hcs
    exact ⟨none, 0, 0, [], rfl, ⟨rfl, .inl rfl, (fun _ h => nomatch h)⟩, by omega, by unfold maxLen; omega, (fun _ h => nomatch h)⟩
  · simp [Value.cells] at hcs
    obtain ⟨rfl, rfl, rfl⟩ := hcs
    have hnm : n ≤ m := by rw [hmm]; split <;> omega
    have key : ∀ i, i < n → ∃ v : OpW, (∀ c, c < 8 → W.cell? ((a.add (i * 8)).add c) = (cellsW v)[c]?) ∧ OkW v ∧ v.name.size ≤ 281474976710656 := by
      intro i hi
      obtain ⟨cs', h1, h2⟩ := hel i (by omega)
      rw [cellsOp] at h1
      obtain ⟨o, rfl, hr, hwt⟩ := trod_opw_s h2
      obtain ⟨_, _, h3⟩ := World.cells?_some h1
      exact ⟨o, fun c hc => h3 c (by simpa [cellsW] using hc), hr, by
        have hd : d = .slice ((List.range n).map D) ((List.range (m - n)).map fun j => D (n + j)) := congrArg Prod.fst hx
        have h9 := hsz o.name.size (by
          rw [hd]
          simp only [DataW.weights, Try.underlying39, List.mem_cons, List.mem_append]
          exact .inr (.inl (wall_mem (List.mem_map.2 ⟨i, List.mem_range.2 hi, rfl⟩) hwt)))
        unfold reachBytes at h9
        omega⟩
    obtain ⟨l, hl, hp⟩ := list1_of n key
    obtain ⟨b, off, spot⟩ := a
    refine ⟨_, n, cap, l, rfl, ⟨hl.symm, ?_, fun x hx => ?_⟩, hle, hmx, fun x hx => ?_⟩
    · by_cases h0 : l = []
      · exact .inl h0
      · have hpos : 0 < l.length := List.length_pos_iff.2 h0
        have h00 : W.cell? (((⟨b, off, spot⟩ : Addr).add (0 * 8)).add 0) = some (.int .i64 l[0].kind) := (hp 0 hpos).1 0 (by omega)
        have hs : spot = none := by
          have := World.cell?_spot h00
          simpa [Addr.add] using this
        subst hs
        refine .inr ⟨b, off, rfl, ?_, ?_⟩
        · have := World.block_lt_of_cell? W _ h00
          simpa [Addr.add] using this
        · intro k hk c hc
          have p0 := (hp k hk).1 c hc
          have hadd : ∀ (o i : Nat), (⟨b, o, none⟩ : Addr).add i = ⟨b, o + i, none⟩ := by intro o i; unfold Addr.add; split <;> simp_all
          simp only [hadd] at p0
          exact p0
    · obtain ⟨i, hi, rfl⟩ := List.mem_iff_getElem.1 hx
      exact (hp i hi).2.1
    · obtain ⟨i, hi, rfl⟩ := List.mem_iff_getElem.1 hx
      exact (hp i hi).2.2
end Go.Proofs.Ytkplhobiciddoaa
