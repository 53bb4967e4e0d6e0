/- Plain law of chapter 13's LedgerHolds: what is taken and given keeps each account within its limit; how a script that came in is opened; and few's contract. -/
import Derived.Test.YtobgolceggeogaaLedO
import Derived.Test.YtobgolceggeogaaVecL
import Derived.Test.YtobgolceggeogaaLedN
namespace Go.Proofs.Ytobgolceggeogaa
open Go.ChangeShapes Go.WideShapes Go.ChangeAt Go.RowKit
/-- Of the first i limits: those that are formed have their account, with the limit, and use what fits it; the others have none. -/
def GoodTo (A : Acc) (lim : List V) (i : Nat) : Prop :=
  ∀ k, (h : k < lim.length) → (k < i → okV lim[k] = true → ∃ u, A (nmI k).data.toList = some (lim[k], u) ∧ fitsV u lim[k] = true) ∧ (¬ (k < i ∧ okV lim[k] = true) → A (nmI k).data.toList = none)
theorem good_none (lim : List V) : GoodTo noA lim 0 := fun k _ => ⟨fun h => by omega, fun _ => rfl⟩
theorem fits_zero {v : V} (h : okV v = true) : fitsV zeroV v = true := by
  obtain ⟨h0, h1, h2, h3⟩ := (okV_iff _).1 h
  unfold fitsV fitsB
  exact decide_eq_true ⟨h0.1, h1.1, h2.1, h3.1⟩
theorem GoodTo.open_ {A : Acc} {lim : List V} {i n : Nat} (h : GoodTo A lim i) (hl : lim.length ≤ 20) (hi : i < lim.length) (hn : n ≤ i) : GoodTo (openA A n (nmI i).data.toList lim[i]) lim (i + 1) ∧ openN A n (nmI i).data.toList lim[i] ≤ i + 1 := by
  have hA : A (nmI i).data.toList = none := (h i hi).2 (by omega)
  cases hv : okV lim[i] with
  | false =>
    have hE : openE A n (nmI i).data.toList lim[i] = 4 := by simp [openE, hv]
    refine ⟨?_, by simp [openN, hE]; omega⟩
    rw [show openA A n (nmI i).data.toList lim[i] = A by simp [openA, hE]]
    intro k hk
    obtain ⟨h1, h2⟩ := h k hk
    refine ⟨fun hki hok => ?_, fun hn => ?_⟩
    · by_cases e : k = i
      · subst e; rw [hv] at hok; cases hok
      · exact h1 (by omega) hok
    · by_cases e : k = i
      · subst e; exact hA
      · exact h2 (fun hh => hn ⟨by omega, hh.2⟩)
  | true =>
    have hE : openE A n (nmI i).data.toList lim[i] = 0 := by simp [openE, hv]; omega
    refine ⟨?_, by simp [openN, hE, hA]; omega⟩
    rw [show openA A n (nmI i).data.toList lim[i] = putA A (nmI i).data.toList (lim[i], zeroV) by simp [openA, hE, hA, zeroA]]
    intro k hk
    obtain ⟨h1, h2⟩ := h k hk
    by_cases e : k = i
    · subst e
      refine ⟨fun _ hok => ⟨zeroV, putA_same _ _ _, fits_zero hok⟩, fun hn => absurd ⟨by omega, hv⟩ hn⟩
    · have hne : (nmI k).data.toList ≠ (nmI i).data.toList := fun h => e (nmI_inj (by omega) (by omega) h)
      rw [putA_other _ _ hne]
      exact ⟨fun hki hok => h1 (by omega) hok, fun hn => h2 (fun hh => hn ⟨by omega, hh.2⟩)⟩
theorem fits_subU {u s l : V} (hs : ok2 s.1 ∧ ok2 s.2.1 ∧ ok2 s.2.2.1 ∧ ok2 s.2.2.2) (hf : fitsV u l = true) : fitsV (subV u s) l = true := by
  unfold ok2 at hs
  unfold fitsV fitsB at hf ⊢
  have hf := of_decide_eq_true hf
  simp only [subV]
  exact decide_eq_true (by omega)
/-- What Take and Give do to one account. -/
theorem take_acct {A : Acc} {l : List Ent} {k : List UInt8} : (A k = none → takeR A l k = none) ∧ (∀ a, A k = some a → fitsV a.2 a.1 = true → ∃ u, takeR A l k = some (a.1, u) ∧ fitsV u a.1 = true) := by
  by_cases h0 : takeE A l = 0
  · have hg : gathE A l = 0 := by
      unfold takeE at h0
      split at h0
      · assumption
      · exact h0
    rw [show takeR A l = takeA A (sumsOf l) by simp [takeR, h0]]
    refine ⟨fun hA => ?_, fun a hA hf => ?_⟩
    · unfold takeA
      split <;> simp [hA]
    · unfold takeA
      cases hS : sumsOf l k with
      | none => exact ⟨a.2, by simp [hA], hf⟩
      | some s =>
        refine ⟨addV a.2 s, by simp [hA], ?_⟩
        unfold takeE at h0
        rw [if_pos hg] at h0
        split at h0
        · rename_i hall
          obtain ⟨e, he, rfl⟩ := sums_from hS
          have := List.all_eq_true.1 hall e he
          unfold takeFits usedOf limOf at this
          rw [hA, hS] at this
          exact this
        · omega
  · rw [show takeR A l = A by simp [takeR, h0]]
    exact ⟨fun h => h, fun a hA hf => ⟨a.2, hA, hf⟩⟩
theorem give_acct {A : Acc} {l : List Ent} {k : List UInt8} : (A k = none → giveR A l k = none) ∧ (∀ a, A k = some a → fitsV a.2 a.1 = true → ∃ u, giveR A l k = some (a.1, u) ∧ fitsV u a.1 = true) := by
  by_cases h0 : giveE A l = 0
  · have hg : gathE A l = 0 := by
      unfold giveE at h0
      split at h0
      · assumption
      · exact h0
    rw [show giveR A l = giveA A (sumsOf l) by simp [giveR, h0]]
    refine ⟨fun hA => ?_, fun a hA hf => ?_⟩
    · unfold giveA
      split <;> simp [hA]
    · unfold giveA
      cases hS : sumsOf l k with
      | none => exact ⟨a.2, by simp [hA], hf⟩
      | some s => exact ⟨subV a.2 s, by simp [hA], fits_subU (sumsOf_ok (gath_form hg) _ _ hS) hf⟩
  · rw [show giveR A l = A by simp [giveR, h0]]
    exact ⟨fun h => h, fun a hA hf => ⟨a.2, hA, hf⟩⟩
theorem GoodTo.take {A : Acc} {lim : List V} {i : Nat} (h : GoodTo A lim i) (l : List Ent) : GoodTo (takeR A l) lim i := fun k hk => by
  obtain ⟨h1, h2⟩ := h k hk
  refine ⟨fun hki hok => ?_, fun hn => take_acct.1 (h2 hn)⟩
  obtain ⟨u, hu, hf⟩ := h1 hki hok
  exact take_acct.2 _ hu hf
theorem GoodTo.give {A : Acc} {lim : List V} {i : Nat} (h : GoodTo A lim i) (l : List Ent) : GoodTo (giveR A l) lim i := fun k hk => by
  obtain ⟨h1, h2⟩ := h k hk
  refine ⟨fun hki hok => ?_, fun hn => give_acct.1 (h2 hn)⟩
  obtain ⟨u, hu, hf⟩ := h1 hki hok
  exact give_acct.2 _ hu hf
/-- An operation of the script: kind, name, amounts, and the entries: the slice, and the list that it holds. -/
structure OpD where
  kind : Int
  name : ByteArray
  v : V
  s : Option Addr
  n : Nat
  cap : Nat
  l : List Ent
def HoldsO (w : World) (b off : Nat) (ops : List OpD) : Prop :=
  ∀ j, (h : j < ops.length) → w.cell? ⟨b, off + j * 7, none⟩ = some (.int .i64 ops[j].kind) ∧ w.cell? ⟨b, off + j * 7 + 1, none⟩ = some (.string ops[j].name) ∧
    w.cell? ⟨b, off + j * 7 + 2, none⟩ = some (.int .i64 ops[j].v.1) ∧ w.cell? ⟨b, off + j * 7 + 3, none⟩ = some (.int .i64 ops[j].v.2.1) ∧ w.cell? ⟨b, off + j * 7 + 4, none⟩ = some (.int .i64 ops[j].v.2.2.1) ∧ w.cell? ⟨b, off + j * 7 + 5, none⟩ = some (.int .i64 ops[j].v.2.2.2) ∧
    w.cell? ⟨b, off + j * 7 + 6, none⟩ = some (.slice ops[j].s ops[j].n ops[j].cap) ∧ ops[j].name.size ≤ maxLen ∧ SlE w ops[j].s ops[j].n ops[j].l ∧ ops[j].l.length ≤ maxLen
def SlO (w : World) (S : Option Addr) (len : Nat) (ops : List OpD) : Prop := len = ops.length ∧ (ops = [] ∨ ∃ b off, S = some ⟨b, off, none⟩ ∧ b < w.heap.size ∧ HoldsO w b off ops)
theorem SlO.below {w w' : World} {S : Option Addr} {len : Nat} {l : List OpD} (h : SlO w S len l) (hw : Below w.heap.size w w') : SlO w' S len l := by
  obtain ⟨h0, h | ⟨b, off, e, hb, h⟩⟩ := h
  · exact ⟨h0, .inl h⟩
  · refine ⟨h0, .inr ⟨b, off, e, Nat.lt_of_lt_of_le hb hw.size, fun j hj => ?_⟩⟩
    obtain ⟨h0, h1, h2, h3, h4, h5, h6, h7, h8, h9⟩ := h j hj
    exact ⟨by rw [hw.cell hb]; exact h0, by rw [hw.cell hb]; exact h1, by rw [hw.cell hb]; exact h2, by rw [hw.cell hb]; exact h3, by rw [hw.cell hb]; exact h4, by rw [hw.cell hb]; exact h5, by rw [hw.cell hb]; exact h6, h7, h8.below hw, h9⟩
theorem cellsOp : Try.prog.cellsOf 50 = 7 := by kernel_rfl
theorem cellsSl : Try.prog.cellsOf 22 = 1 := by kernel_rfl
theorem cellsInt : Try.prog.cellsOf 3 = 1 := by kernel_rfl
set_option maxRecDepth 100000 in
theorem trod_op {H : Type} {enc : TypeId × Value → H} {W : World} {b0 fuel : Nat} {sp : Nat → Bool} {held : Bool} {cs : List Value} {x : DataW H × List MemPlace}
    (h : DataW.trod enc Try.prog W b0 sp held fuel 50 cs = some x) : ∃ o : OpD, cs = [.int .i64 o.kind, .string o.name, .int .i64 o.v.1, .int .i64 o.v.2.1, .int .i64 o.v.2.2.1, .int .i64 o.v.2.2.2, .slice o.s o.n o.cap] ∧ o.name.size ≤ maxLen ∧ SlE W o.s o.n o.l ∧ o.l.length ≤ maxLen := by
  obtain ⟨xs, n, _, _, hl, hlen, hf⟩ := DataW.trod_struct Try.underlying50 h
  rw [cellsOp] at hl
  match xs, hlen with
  | [z0, z1, z2, z3], _ =>
    have h0 : DataW.trod enc Try.prog W b0 sp held n 3 ((cs.drop 0).take (Try.prog.cellsOf 3)) = some z0 := hf 0 _ rfl
    have h1 : DataW.trod enc Try.prog W b0 sp held n 9 ((cs.drop 1).take (Try.prog.cellsOf 9)) = some z1 := hf 1 _ rfl
    have h2 : DataW.trod enc Try.prog W b0 sp held n 29 ((cs.drop 2).take (Try.prog.cellsOf 29)) = some z2 := hf 2 _ rfl
    have h3 : DataW.trod enc Try.prog W b0 sp held n 22 ((cs.drop 6).take (Try.prog.cellsOf 22)) = some z3 := hf 3 _ rfl
    clear hf
    rw [cellsInt] at h0
    rw [cellsStr] at h1
    rw [cellsV] at h2
    rw [cellsSl] at h3
    match cs, hl with
    | [c0, c1, c2, c3, c4, c5, c6], _ =>
      simp only [List.drop_zero, List.take_succ_cons, List.take_zero, List.drop_succ_cons] at h0 h1 h2 h3
      obtain ⟨k, q0, _, _⟩ := DataW.trod_int Try.underlying3 h0
      obtain ⟨s, q1, _, hs⟩ := DataW.trod_string Try.underlying9 h1
      obtain ⟨a, b, c, e, q2⟩ := trod_vec h2
      obtain ⟨S, len, cap, q3⟩ : ∃ S len cap, c6 = .slice S len cap := by
        rcases Go.Deep.open_slice Try.underlying22 h3 with ⟨hcs, _⟩ | ⟨a, len, cap', m, nn, D, Pl, hcs, _⟩
        · simp at hcs; exact ⟨_, _, _, hcs⟩
        · simp at hcs; exact ⟨_, _, _, hcs⟩
      subst q3
      obtain ⟨l, hl1, hl2, hl3⟩ := trod_ents h3
      simp at q0 q1 q2
      obtain ⟨rfl, rfl, rfl, rfl⟩ := q2
      subst q0 q1
      exact ⟨⟨k, s, (a, b, c, e), S, len, cap, l⟩, rfl, hs, hl1, by rw [← hl1.1]; omega⟩
theorem listO_of {P : Nat → OpD → Prop} : ∀ n, (∀ i, i < n → ∃ v, P i v) → ∃ l : List OpD, l.length = n ∧ ∀ i, (h : i < l.length) → P i l[i]
  | 0, _ => ⟨[], rfl, fun i h => by simp at h⟩
  | n + 1, h => by
    obtain ⟨l, hl, hp⟩ := listO_of n (fun i hi => h i (by omega))
    obtain ⟨v, hv⟩ := h n (by omega)
    refine ⟨l ++ [v], by simp [hl], fun i hi => ?_⟩
    by_cases e : i < l.length
    · rw [List.getElem_append_left e]; exact hp i e
    · have : i = n := by simp at hi; omega
      subst this
      rw [List.getElem_append_right (by omega)]
      simpa [hl] using hv
set_option maxRecDepth 100000 in
/-- A script that came in, opened. -/
theorem open_ops {H : Type} {enc : TypeId × Value → H} {W : World} {base b0 : Nat} {r : Reach} {sp : Nat → Bool} {held : Bool} {v : Value} {d : DataW H} {p : List MemPlace}
    (hv : Value.okWide Try.prog W r base 47 v) (h : DataW.Trod enc Try.prog W b0 sp held 47 v d p) :
    ∃ (A : Option Addr) (n cap : Nat) (l : List OpD), v = .slice A n cap ∧ SlO W A n l ∧ n ≤ cap ∧ cap ≤ maxLen := by
  obtain ⟨A, n, cap, rfl⟩ := okWide_slice Try.underlying47 hv
  obtain ⟨fuel, hf⟩ := h
  rcases Go.Deep.open_slice Try.underlying47 hf with ⟨hcs, _⟩ | ⟨a, len, cap', m, nn, D, Pl, hcs, _, hle, hmx, hmm, hx, hel⟩
  · simp [Value.cells] at hcs
    obtain ⟨rfl, rfl, rfl⟩ := hcs
    exact ⟨none, 0, 0, [], rfl, ⟨rfl, .inl rfl⟩, by omega, by unfold maxLen; omega⟩
  · simp [Value.cells] at hcs
    obtain ⟨rfl, rfl, rfl⟩ := hcs
    have hnm : n ≤ m := by rw [hmm]; split <;> omega
    have key : ∀ i, i < n → ∃ v : OpD, W.cell? (a.add (i * 7)) = some (.int .i64 v.kind) ∧ W.cell? ((a.add (i * 7)).add 1) = some (.string v.name) ∧ W.cell? ((a.add (i * 7)).add 2) = some (.int .i64 v.v.1) ∧ W.cell? ((a.add (i * 7)).add 3) = some (.int .i64 v.v.2.1) ∧ W.cell? ((a.add (i * 7)).add 4) = some (.int .i64 v.v.2.2.1) ∧ W.cell? ((a.add (i * 7)).add 5) = some (.int .i64 v.v.2.2.2) ∧ W.cell? ((a.add (i * 7)).add 6) = some (.slice v.s v.n v.cap) ∧
        v.name.size ≤ maxLen ∧ SlE W v.s v.n v.l ∧ v.l.length ≤ maxLen := by
      intro i hi
      obtain ⟨cs', h1, h2⟩ := hel i (by omega)
      rw [cellsOp] at h1
      obtain ⟨o, rfl, hr⟩ := trod_op h2
      obtain ⟨_, _, h3⟩ := World.cells?_some h1
      have q0 := h3 0 (by omega)
      have q1 := h3 1 (by omega)
      have q2 := h3 2 (by omega)
      have q3 := h3 3 (by omega)
      have q4 := h3 4 (by omega)
      have q5 := h3 5 (by omega)
      have q6 := h3 6 (by omega)
      simp at q0 q1 q2 q3 q4 q5 q6
      refine ⟨o, ?_, q1, q2, q3, q4, q5, q6, hr⟩
      have e0 : (a.add (i * 7)).add 0 = a.add (i * 7) := by simp [Addr.add]
      rw [e0] at q0; exact q0
    obtain ⟨l, hl, hp⟩ := listO_of n key
    obtain ⟨b, off, spot⟩ := a
    refine ⟨_, n, cap, l, rfl, ⟨hl.symm, ?_⟩, hle, hmx⟩
    by_cases h0 : l = []
    · exact .inl h0
    · have hpos : 0 < l.length := List.length_pos_iff.2 h0
      have hs : spot = none := by
        have := World.cell?_spot (hp 0 hpos).1
        simpa [Addr.add] using this
      subst hs
      refine .inr ⟨b, off, rfl, ?_, ?_⟩
      · have := World.block_lt_of_cell? W _ (hp 0 hpos).1
        simpa [Addr.add] using this
      · intro k hk
        obtain ⟨p0, p1, p2, p3, p4, p5, p6, pr⟩ := hp k hk
        have hadd : ∀ (o i : Nat), (⟨b, o, none⟩ : Addr).add i = ⟨b, o + i, none⟩ := by intro o i; unfold Addr.add; split <;> simp_all
        simp only [hadd] at p0 p1 p2 p3 p4 p5 p6
        exact ⟨p0, p1, p2, p3, p4, p5, p6, pr⟩
/-- The ending is some Bool. -/
def SomeBool (e : Ending) : Prop := ∃ b, e = .returned (.bool b)
set_option maxHeartbeats 1000000 in
/-- few answers, and touches nothing. -/
theorem few_any (S : Option Addr) (len cap : Nat) (ops : List OpD) (w : World) (hl : SlO w S len ops) (hm : len ≤ maxLen) :
    Calls Try.prog 20 #[.slice S len cap] w fun e w' => SomeBool e ∧ Below w.heap.size w w' := by
  have hm' : len ≤ 9223372036854775807 := by unfold maxLen at hm; omega
  have hlen := hl.1
  subst hlen
  have HM := hid hm
  clear hm
  go_enter Try.func20, Try.ntmps20
  go_wp2
  go_loopw [3, 4] (fun x i wr => ∃ (y : Int) (k : Nat), x = .int .i64 y ∧ k ≤ ops.length ∧ i = .int .i64 k ∧ wr = w) (fun _ i _ => ops.length - (intOf i).toNat)
  case atStart => exact ⟨0, 0, rfl, Nat.zero_le _, rfl, rfl⟩
  case round =>
    obtain ⟨y, k, rfl, hk, rfl, rfl⟩ := hrel
    by_cases hkl : k < ops.length
    · by_cases hy : y ≤ 2000
      · obtain ⟨-, rfl | ⟨b, off, rfl, hb, hh⟩⟩ := hl
        · simp at hkl
        · have hv := (hh k hkl).2.2.2.2.2.2.1
          generalize ops[k] = o at hv
          obtain ⟨_, _, _, S', n', cap', _⟩ := o
          simp only at hv
          clear hh
          have R1 : Hid (k + 1 ≤ ops.length) := hkl
          have M1 : Hid (ops.length - (k + 1) < ops.length - k) := by unfold Hid; omega
          go_wp2
          go_roundw
          case rel => exact ⟨_, k + 1, rfl, R1.out, by go_num, trivial⟩
          case measure =>
            have := M1.out
            simp [intOf]
            omega
      · go_wp2
        go_ret
        exact ⟨⟨_, rfl⟩, Below.refl _ _⟩
    · go_wp2
      go_ret
      exact ⟨⟨_, rfl⟩, Below.refl _ _⟩
end Go.Proofs.Ytobgolceggeogaa
