/- Chapter 13: how a script of calls is opened, with its slices' lengths within the reach; few; the start of LedgerPlays. -/
import Derived.Test.YtobgolceggeogaaLedH
import Derived.SizedLaws
namespace Go.Proofs.Ytobgolceggeogaa
open Go.ChangeShapes Go.WideShapes Go.ChangeAt Go.RowKit
theorem wall_mem {H : Type} {P : Program} {e : TypeId} {d : DataW H} {n : Nat} : ∀ {l : List (DataW H)}, d ∈ l → n ∈ d.weights P e → n ∈ DataW.weightsAll P e l
  | [], h, _ => nomatch h
  | y :: l, h, hn => by
    simp only [DataW.weightsAll, List.mem_append]
    rcases List.mem_cons.1 h with rfl | h
    · exact .inl hn
    · exact .inr (wall_mem h hn)
theorem bytesE : Try.prog.bytesOf 31 = 48 := by kernel_rfl
set_option maxRecDepth 100000 in
theorem trod_ents_n {H : Type} {enc : TypeId × Value → H} {W : World} {b0 fuel : Nat} {sp : Nat → Bool} {held : Bool} {A : Option Addr} {n cap : Nat} {x : DataW H × List MemPlace}
    (hf : DataW.trod enc Try.prog W b0 sp held fuel 22 [.slice A n cap] = some x) : n = 0 ∨ ∃ m ∈ x.1.weights Try.prog 22, n ≤ m := by
  rcases Go.Deep.open_slice Try.underlying22 hf with ⟨hcs, _⟩ | ⟨a, len, cap', m, nn, D, Pl, hcs, _, hle, hmx, hmm, hx, hel⟩
  · simp at hcs
    exact .inl hcs.2.1
  · simp at hcs
    obtain ⟨rfl, rfl, rfl⟩ := hcs
    right
    have hd : x.1 = .slice ((List.range n).map D) ((List.range (m - n)).map fun j => D (n + j)) := congrArg Prod.fst hx
    rw [hd]
    simp only [DataW.weights, Try.underlying22]
    refine ⟨_, List.mem_cons_self .., ?_⟩
    rw [bytesE]
    simp
    omega
set_option maxRecDepth 100000 in
theorem trod_op_s {H : Type} {enc : TypeId × Value → H} {W : World} {b0 fuel : Nat} {sp : Nat → Bool} {held : Bool} {cs : List Value} {x : DataW H × List MemPlace}
    (h : DataW.trod enc Try.prog W b0 sp held fuel 50 cs = some x) : ∃ o : OpD, cs = [.int .i64 o.kind, .string o.name, .int .i64 o.v.1, .int .i64 o.v.2.1, .int .i64 o.v.2.2.1, .int .i64 o.v.2.2.2, .slice o.s o.n o.cap] ∧ o.name.size ≤ maxLen ∧ SlE W o.s o.n o.l ∧ o.l.length ≤ maxLen ∧ (o.n = 0 ∨ ∃ m ∈ x.1.weights Try.prog 50, o.n ≤ m) := by
  obtain ⟨xs, n, _, hxe, hl, hlen, hf⟩ := DataW.trod_struct Try.underlying50 h
  rw [cellsOp] at hl
  match xs, hlen with
  | [z0, z1, z2, z3], _ =>
    have h0 : DataW.trod enc Try.prog W b0 sp held n 3 ((cs.drop 0).take (Try.prog.cellsOf 3)) = some z0 := hf 0 _ rfl
    have h1 : DataW.trod enc Try.prog W b0 sp held n 9 ((cs.drop 1).take (Try.prog.cellsOf 9)) = some z1 := hf 1 _ rfl
    have h2 : DataW.trod enc Try.prog W b0 sp held n 29 ((cs.drop 2).take (Try.prog.cellsOf 29)) = some z2 := hf 2 _ rfl
    have h3 : DataW.trod enc Try.prog W b0 sp held n 22 ((cs.drop 6).take (Try.prog.cellsOf 22)) = some z3 := hf 3 _ rfl
    clear hf
    rw [cellsInt] at h0
    rw [cellsStr] at h1
    rw [cellsV] at h2
    rw [cellsSl] at h3
    match cs, hl with
    | [c0, c1, c2, c3, c4, c5, c6], _ =>
      simp only [List.drop_zero, List.take_succ_cons, List.take_zero, List.drop_succ_cons] at h0 h1 h2 h3
      obtain ⟨k, q0, _, _⟩ := DataW.trod_int Try.underlying3 h0
      obtain ⟨s, q1, _, hs⟩ := DataW.trod_string Try.underlying9 h1
      obtain ⟨a, b, c, e, q2⟩ := trod_vec h2
      obtain ⟨S, len, cap, q3⟩ : ∃ S len cap, c6 = .slice S len cap := by
        rcases Go.Deep.open_slice Try.underlying22 h3 with ⟨hcs, _⟩ | ⟨a, len, cap', m, nn, D, Pl, hcs, _⟩
        · simp at hcs; exact ⟨_, _, _, hcs⟩
        · simp at hcs; exact ⟨_, _, _, hcs⟩
      subst q3
      obtain ⟨l, hl1, hl2, hl3⟩ := trod_ents h3
      have hl4 := trod_ents_n h3
      simp at q0 q1 q2
      obtain ⟨rfl, rfl, rfl, rfl⟩ := q2
      subst q0 q1
      refine ⟨⟨k, s, (a, b, c, e), S, len, cap, l⟩, rfl, hs, hl1, by rw [← hl1.1]; omega, ?_⟩
      rcases hl4 with h4 | ⟨m, hm, hle⟩
      · exact .inl h4
      · right
        refine ⟨m, ?_, hle⟩
        rw [hxe]
        simp only [DataW.weights, Try.underlying50, List.map_cons, List.map_nil, DataW.weightsEach, List.mem_append]
        exact .inr (.inr (.inr (.inl hm)))
set_option maxRecDepth 100000 in
/-- A script that came in, opened. -/
theorem open_ops_s {H : Type} {enc : TypeId × Value → H} {W : World} {base b0 : Nat} {r : Reach} {sp : Nat → Bool} {held : Bool} {v : Value} {d : DataW H} {p : List MemPlace}
    (hv : Value.okWide Try.prog W r base 47 v) (h : DataW.Trod enc Try.prog W b0 sp held 47 v d p) (hsz : ∀ m ∈ d.weights Try.prog 47, m ≤ reachBytes) :
    ∃ (A : Option Addr) (n cap : Nat) (l : List OpD), v = .slice A n cap ∧ SlO W A n l ∧ n ≤ cap ∧ cap ≤ maxLen ∧ ∀ x ∈ l, x.n ≤ 281474976710656 := by
  obtain ⟨A, n, cap, rfl⟩ := okWide_slice Try.underlying47 hv
  obtain ⟨fuel, hf⟩ := h
  rcases Go.Deep.open_slice Try.underlying47 hf with ⟨hcs, _⟩ | ⟨a, len, cap', m, nn, D, Pl, hcs, _, hle, hmx, hmm, hx, hel⟩
  · simp [Value.cells] at hcs
    obtain ⟨rfl, rfl, rfl⟩ := hcs
    exact ⟨none, 0, 0, [], rfl, ⟨rfl, .inl rfl⟩, by omega, by unfold maxLen; omega, (fun _ h => nomatch h)⟩
  · simp [Value.cells] at hcs
    obtain ⟨rfl, rfl, rfl⟩ := hcs
    have hnm : n ≤ m := by rw [hmm]; split <;> omega
    have key : ∀ i, i < n → ∃ v : OpD, W.cell? (a.add (i * 7)) = some (.int .i64 v.kind) ∧ W.cell? ((a.add (i * 7)).add 1) = some (.string v.name) ∧ W.cell? ((a.add (i * 7)).add 2) = some (.int .i64 v.v.1) ∧ W.cell? ((a.add (i * 7)).add 3) = some (.int .i64 v.v.2.1) ∧ W.cell? ((a.add (i * 7)).add 4) = some (.int .i64 v.v.2.2.1) ∧ W.cell? ((a.add (i * 7)).add 5) = some (.int .i64 v.v.2.2.2) ∧ W.cell? ((a.add (i * 7)).add 6) = some (.slice v.s v.n v.cap) ∧
        v.name.size ≤ maxLen ∧ SlE W v.s v.n v.l ∧ v.l.length ≤ maxLen ∧ v.n ≤ 281474976710656 := by
      intro i hi
      obtain ⟨cs', h1, h2⟩ := hel i (by omega)
      rw [cellsOp] at h1
      obtain ⟨o, rfl, hr1, hr2, hr3, hwt⟩ := trod_op_s h2
      obtain ⟨_, _, h3⟩ := World.cells?_some h1
      have q0 := h3 0 (by omega)
      have q1 := h3 1 (by omega)
      have q2 := h3 2 (by omega)
      have q3 := h3 3 (by omega)
      have q4 := h3 4 (by omega)
      have q5 := h3 5 (by omega)
      have q6 := h3 6 (by omega)
      simp at q0 q1 q2 q3 q4 q5 q6
      refine ⟨o, ?_, q1, q2, q3, q4, q5, q6, hr1, hr2, hr3, ?_⟩
      · have e0 : (a.add (i * 7)).add 0 = a.add (i * 7) := by simp [Addr.add]
        rw [e0] at q0; exact q0
      · rcases hwt with h4 | ⟨mm, hm, hle⟩
        · omega
        · have hd : d = .slice ((List.range n).map D) ((List.range (m - n)).map fun j => D (n + j)) := congrArg Prod.fst hx
          have h9 := hsz mm (by
            rw [hd]
            simp only [DataW.weights, Try.underlying47, List.mem_cons, List.mem_append]
            exact .inr (.inl (wall_mem (List.mem_map.2 ⟨i, List.mem_range.2 hi, rfl⟩) hm)))
          unfold reachBytes at h9
          omega
    obtain ⟨l, hl, hp⟩ := listO_of n key
    obtain ⟨b, off, spot⟩ := a
    refine ⟨_, n, cap, l, rfl, ⟨hl.symm, ?_⟩, hle, hmx, fun x hx => ?_⟩
    · by_cases h0 : l = []
      · exact .inl h0
      · have hpos : 0 < l.length := List.length_pos_iff.2 h0
        have hs : spot = none := by
          have := World.cell?_spot (hp 0 hpos).1
          simpa [Addr.add] using this
        subst hs
        refine .inr ⟨b, off, rfl, ?_, ?_⟩
        · have := World.block_lt_of_cell? W _ (hp 0 hpos).1
          simpa [Addr.add] using this
        · intro k hk
          obtain ⟨p0, p1, p2, p3, p4, p5, p6, p7, p8, p9, -⟩ := hp k hk
          have hadd : ∀ (o i : Nat), (⟨b, o, none⟩ : Addr).add i = ⟨b, o + i, none⟩ := by intro o i; unfold Addr.add; split <;> simp_all
          simp only [hadd] at p0 p1 p2 p3 p4 p5 p6
          exact ⟨p0, p1, p2, p3, p4, p5, p6, p7, p8, p9⟩
    · obtain ⟨i, hi, rfl⟩ := List.mem_iff_getElem.1 hx
      exact (hp i hi).2.2.2.2.2.2.2.2.2.2
/-- What few counts. -/
def fewI (ops : List OpD) : Int := match ops with
  | [] => 0
  | o :: l => fewI l + (5 + (o.n : Int))
theorem fewI_append (l : List OpD) (o : OpD) : fewI (l ++ [o]) = fewI l + (5 + (o.n : Int)) := by
  induction l with
  | nil => simp [fewI]
  | cons x l ih => simp only [List.cons_append, fewI, ih]; omega
theorem fewI_next {l : List OpD} {k : Nat} (h : k < l.length) : fewI (l.take (k + 1)) = fewI (l.take k) + (5 + (l[k].n : Int)) := by
  rw [List.take_add_one, List.getElem?_eq_getElem h]
  exact fewI_append _ _
theorem fewI_pos (l : List OpD) : 0 ≤ fewI l := by
  induction l with
  | nil => simp [fewI]
  | cons x l ih => simp only [fewI]; omega
theorem fewI_le (l : List OpD) (h : fewI l ≤ 2000) : l.length ≤ 400 ∧ ∀ o ∈ l, o.n ≤ 2000 := by
  have key : ∀ l : List OpD, (l.length : Int) * 5 ≤ fewI l ∧ ∀ o ∈ l, (o.n : Int) ≤ fewI l := by
    intro l
    induction l with
    | nil => exact ⟨by simp [fewI], fun o h => nomatch h⟩
    | cons x l ih =>
      have := fewI_pos l
      refine ⟨by simp only [fewI, List.length_cons]; omega, fun o ho => ?_⟩
      simp only [fewI]
      rcases List.mem_cons.1 ho with rfl | ho
      · omega
      · have := ih.2 o ho; omega
  obtain ⟨h1, h2⟩ := key l
  exact ⟨by omega, fun o ho => by have := h2 o ho; omega⟩
def FewB (ops : List OpD) (e : Ending) : Prop := ∃ b : Bool, e = .returned (.bool b) ∧ (b = true → ops.length ≤ 400 ∧ ∀ o ∈ ops, o.n ≤ 2000)
theorem fewB_mk {ops : List OpD} {b : Bool} (h : b = true → fewI ops ≤ 2000) : FewB ops (.returned (.bool b)) := ⟨b, rfl, fun hb => fewI_le ops (h hb)⟩
set_option maxHeartbeats 1000000 in
theorem few_yes (S : Option Addr) (len cap : Nat) (ops : List OpD) (w : World) (hl : SlO w S len ops) (hm : len ≤ maxLen) (hsz : ∀ x ∈ ops, x.n ≤ 281474976710656) :
    Calls Try.prog 20 #[.slice S len cap] w fun e w' => FewB ops e ∧ Below w.heap.size w w' := by
  have hm' : len ≤ 9223372036854775807 := by unfold maxLen at hm; omega
  have hlen := hl.1
  subst hlen
  have HM := hid hm
  have HSZ := hid hsz
  clear hm hsz
  go_enter Try.func20, Try.ntmps20
  go_wp2
  go_loopw [3, 4] (fun x i wr => ∃ (y : Int) (k : Nat), x = .int .i64 y ∧ k ≤ ops.length ∧ i = .int .i64 k ∧ Hid (y = fewI (ops.take k)) ∧ wr = w) (fun _ i _ => ops.length - (intOf i).toNat)
  case atStart => exact ⟨0, 0, rfl, Nat.zero_le _, rfl, rfl, rfl⟩
  case round =>
    obtain ⟨y, k, rfl, hk, rfl, HY, rfl⟩ := hrel
    have hy0 : 0 ≤ y := by rw [HY.out]; exact fewI_pos _
    by_cases hkl : k < ops.length
    · by_cases hy : y ≤ 2000
      · obtain ⟨-, rfl | ⟨b, off, rfl, hb, hh⟩⟩ := hl
        · simp at hkl
        · have hv := (hh k hkl).2.2.2.2.2.2.1
          have hn := HSZ.out _ (List.getElem_mem hkl)
          have HN : Hid (fewI (ops.take (k + 1)) = fewI (ops.take k) + (5 + (ops[k].n : Int))) := fewI_next hkl
          generalize ops[k] = o at hv hn HN
          obtain ⟨_, _, _, S', n', cap', _⟩ := o
          simp only at hv hn HN
          clear hh
          have R1 : Hid (k + 1 ≤ ops.length) := hkl
          have M1 : Hid (ops.length - (k + 1) < ops.length - k) := by unfold Hid; omega
          go_wp2
          go_roundw
          case rel => exact ⟨_, k + 1, rfl, R1.out, by go_num, by unfold Hid; rw [HN.out, ← HY.out], trivial⟩
          case measure =>
            have := M1.out
            simp [intOf]
            omega
      · go_wp2
        go_ret
        exact ⟨fewB_mk (fun h => by first | (simp at h; done) | (simp at h; omega)), Below.refl _ _⟩
    · obtain rfl : k = ops.length := by omega
      have hy9 := HY.out
      rw [List.take_length] at hy9
      have HY9 := hid hy9
      clear hy9
      go_wp2
      go_ret
      exact ⟨fewB_mk (fun h => by simp at h; rw [← HY9.out]; omega), Below.refl _ _⟩
end Go.Proofs.Ytobgolceggeogaa
