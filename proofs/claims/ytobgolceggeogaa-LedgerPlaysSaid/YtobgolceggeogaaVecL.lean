/- Slices of vectors: how they read, how such a slice that came in is opened, and one vector appended. For seats of later chapters. -/
import Derived.Test.YtobgolceggeogaaVecO
import Derived.Test.YtobgolceggeogaaCls
import Derived.Deep.Slices
import Derived.SizedLaws
import Derived.OwnWalk
import Derived.Deep.AppendLies
namespace Go.Proofs.Ytobgolceggeogaa
open Go.ChangeShapes Go.WideShapes Go.ChangeAt Go.RowKit
def HoldsV (w : World) (b off : Nat) (l : List V) : Prop :=
  ∀ j, (h : j < l.length) → w.cell? ⟨b, off + j * 4, none⟩ = some (.int .i64 l[j].1) ∧ w.cell? ⟨b, off + j * 4 + 1, none⟩ = some (.int .i64 l[j].2.1) ∧
    w.cell? ⟨b, off + j * 4 + 2, none⟩ = some (.int .i64 l[j].2.2.1) ∧ w.cell? ⟨b, off + j * 4 + 3, none⟩ = some (.int .i64 l[j].2.2.2)
/-- The slice holds the list: its cells, or there is none. -/
def SlV (w : World) (S : Option Addr) (len : Nat) (l : List V) : Prop := len = l.length ∧ (l = [] ∨ ∃ b off, S = some ⟨b, off, none⟩ ∧ b < w.heap.size ∧ HoldsV w b off l)
theorem SlV.below {w w' : World} {S : Option Addr} {len : Nat} {l : List V} (h : SlV w S len l) (hw : Below w.heap.size w w') : SlV w' S len l := by
  obtain ⟨h0, h | ⟨b, off, e, hb, h⟩⟩ := h
  · exact ⟨h0, .inl h⟩
  · refine ⟨h0, .inr ⟨b, off, e, Nat.lt_of_lt_of_le hb hw.size, fun j hj => ?_⟩⟩
    obtain ⟨h0, h1, h2, h3⟩ := h j hj
    exact ⟨by rw [hw.cell hb]; exact h0, by rw [hw.cell hb]; exact h1, by rw [hw.cell hb]; exact h2, by rw [hw.cell hb]; exact h3⟩
/-- The list's cells, one behind the other. -/
def flatV : List V → List Value
  | [] => []
  | v :: l => .int .i64 v.1 :: .int .i64 v.2.1 :: .int .i64 v.2.2.1 :: .int .i64 v.2.2.2 :: flatV l
theorem flatV_length (l : List V) : (flatV l).length = l.length * 4 := by
  induction l with
  | nil => rfl
  | cons v l ih => simp only [flatV, List.length_cons, ih]; omega
theorem flatV_append (l l' : List V) : flatV (l ++ l') = flatV l ++ flatV l' := by
  induction l with
  | nil => rfl
  | cons v l ih => simp [flatV, ih]
theorem flatV_at (l : List V) : ∀ j, (h : j < l.length) → (flatV l)[j * 4]? = some (.int .i64 l[j].1) ∧ (flatV l)[j * 4 + 1]? = some (.int .i64 l[j].2.1) ∧ (flatV l)[j * 4 + 2]? = some (.int .i64 l[j].2.2.1) ∧ (flatV l)[j * 4 + 3]? = some (.int .i64 l[j].2.2.2) := by
  induction l with
  | nil => intro j h; simp at h
  | cons v l ih =>
    intro j h
    cases j with
    | zero => simp [flatV]
    | succ j =>
      have hj : j < l.length := by simpa using h
      have := ih j hj
      simp only [flatV, show (j + 1) * 4 = j * 4 + 1 + 1 + 1 + 1 by omega, List.getElem?_cons_succ, List.getElem_cons_succ]
      exact this
theorem flatV_one (l : List V) : ∀ u ∈ flatV l, u.oneCell' = true := by
  induction l with
  | nil => intro u h; simp [flatV] at h
  | cons v l ih =>
    intro u h
    simp only [flatV, List.mem_cons] at h
    rcases h with rfl | rfl | rfl | rfl | h
    · rfl
    · rfl
    · rfl
    · rfl
    · exact ih u h
/-- A row of the call's own that holds the list's cells reads as the list. -/
theorem slV_of_own {w : World} {base n : Nat} {v : Value} {l : List V} (hn : n = l.length) (h : w.ownsRow base 29 4 v n (flatV l)) :
    ∃ A cap, v = .slice A n cap ∧ SlV w A n l := by
  obtain ⟨_, ⟨rfl, h0⟩ | ⟨g, cap, cur, rfl, _, hh, _, _, _, ht⟩⟩ := h
  · exact ⟨none, 0, by rw [h0], hn, .inl (List.length_eq_zero_iff.1 (by omega))⟩
  · refine ⟨_, cap, rfl, hn, .inr ⟨g, 0, rfl, lt_of_at hh, ?_⟩⟩
    have key : ∀ i u, (flatV l)[i]? = some u → w.cell? ⟨g, 0 + i, none⟩ = some u := by
      intro i u hu
      rw [blk_cell hh, Nat.zero_add]
      rw [← ht, List.getElem?_take] at hu
      split at hu
      · simpa using hu
      · cases hu
    intro j hj
    obtain ⟨f0, f1, f2, f3⟩ := flatV_at l j hj
    exact ⟨key _ _ f0, key _ _ f1, key _ _ f2, key _ _ f3⟩
theorem infoVz : (Try.prog.info? 29).map (fun i => (i.zero, i.size, i.bytes)) = some (some (.agg #[.int .i64 0, .int .i64 0, .int .i64 0, .int .i64 0]), 4, 32) := by kernel_rfl
/-- One vector is appended. -/
theorem app_vec {W : World} {base n : Nat} {v : Value} {l : List V} (hn : n = l.length) (hown : W.ownsRow base 29 4 v n (flatV l)) (hm : n ≤ 100000) (hbase : base ≤ W.heap.size) (x0 x1 x2 x3 : Int) :
    ∃ v' w', (Builtin.append_ #[46, 46] 46 #[v, .slice (some ⟨W.heap.size, 0, none⟩) 1 1]).run Try.prog (W.alloc (.cells #[.int .i64 x0, .int .i64 x1, .int .i64 x2, .int .i64 x3] 29)) = .ok v' w' ∧
      w'.ownsRow base 29 4 v' (n + 1) (flatV (l ++ [(x0, x1, x2, x3)])) ∧ Below base W w' := by
  obtain ⟨i0, hi, hz0, hz1, hz2⟩ := info_parts infoVz
  obtain ⟨v', w', h1, h2, h3, -⟩ := run_append_own (P := Try.prog) (W.alloc (.cells #[.int .i64 x0, .int .i64 x1, .int .i64 x2, .int .i64 x3] 29)) base 46 46 29 i0 _ 4 32 Try.underlying46 hi hz0 hz1 hz2 rfl (by omega) v n (flatV l) (hown.alloc _)
    ⟨W.heap.size, 0, none⟩ 1 1 (flatV [(x0, x1, x2, x3)]) rfl (World.news_of_block (alloc_at _ _)) (flatV_one _) (by unfold maxLen; omega) (by omega) (by simp; omega)
  refine ⟨v', w', h1, ?_, ?_⟩
  · rw [flatV_append]; exact h2
  · refine Below.grown ((Below.refl _ _).alloc hbase _) h3 (by simp; omega) (fun k hk => ((hown.lt) k hk).1)
theorem listV_of {P : Nat → V → Prop} : ∀ n, (∀ i, i < n → ∃ v, P i v) → ∃ l : List V, l.length = n ∧ ∀ i, (h : i < l.length) → P i l[i]
  | 0, _ => ⟨[], rfl, fun i h => by simp at h⟩
  | n + 1, h => by
    obtain ⟨l, hl, hp⟩ := listV_of n (fun i hi => h i (by omega))
    obtain ⟨v, hv⟩ := h n (by omega)
    refine ⟨l ++ [v], by simp [hl], fun i hi => ?_⟩
    by_cases e : i < l.length
    · rw [List.getElem_append_left e]; exact hp i e
    · have : i = n := by simp at hi; omega
      subst this
      rw [List.getElem_append_right (by omega)]
      simpa [hl] using hv
set_option maxRecDepth 100000 in
theorem trod_vecs {H : Type} {enc : TypeId × Value → H} {W : World} {b0 fuel : Nat} {sp : Nat → Bool} {held : Bool} {A : Option Addr} {n cap : Nat} {x : DataW H × List MemPlace}
    (hf : DataW.trod enc Try.prog W b0 sp held fuel 46 [.slice A n cap] = some x) : ∃ l : List V, SlV W A n l ∧ n ≤ cap ∧ cap ≤ maxLen := by
  rcases Go.Deep.open_slice Try.underlying46 hf with ⟨hcs, _⟩ | ⟨a, len, cap', m, nn, D, Pl, hcs, _, hle, hmx, hmm, hx, hel⟩
  · simp at hcs
    obtain ⟨rfl, rfl, rfl⟩ := hcs
    exact ⟨[], ⟨rfl, .inl rfl⟩, by omega, by unfold maxLen; omega⟩
  · simp at hcs
    obtain ⟨rfl, rfl, rfl⟩ := hcs
    have hnm : n ≤ m := by rw [hmm]; split <;> omega
    have key : ∀ i, i < n → ∃ v : V, W.cell? (a.add (i * 4)) = some (.int .i64 v.1) ∧ W.cell? ((a.add (i * 4)).add 1) = some (.int .i64 v.2.1) ∧ W.cell? ((a.add (i * 4)).add 2) = some (.int .i64 v.2.2.1) ∧ W.cell? ((a.add (i * 4)).add 3) = some (.int .i64 v.2.2.2) := by
      intro i hi
      obtain ⟨cs', h1, h2⟩ := hel i (by omega)
      rw [cellsV] at h1
      obtain ⟨x0, x1, x2, x3, rfl⟩ := trod_vec h2
      obtain ⟨_, _, h3⟩ := World.cells?_some h1
      have q0 := h3 0 (by omega)
      have q1 := h3 1 (by omega)
      have q2 := h3 2 (by omega)
      have q3 := h3 3 (by omega)
      simp at q0 q1 q2 q3
      refine ⟨(x0, x1, x2, x3), ?_, q1, q2, q3⟩
      have e0 : (a.add (i * 4)).add 0 = a.add (i * 4) := by simp [Addr.add]
      rw [e0] at q0; exact q0
    obtain ⟨l, hl, hp⟩ := listV_of n key
    obtain ⟨b, off, spot⟩ := a
    refine ⟨l, ⟨hl.symm, ?_⟩, hle, hmx⟩
    by_cases h0 : l = []
    · exact .inl h0
    · have hpos : 0 < l.length := List.length_pos_iff.2 h0
      have hs : spot = none := by
        have := World.cell?_spot (hp 0 hpos).1
        simpa [Addr.add] using this
      subst hs
      refine .inr ⟨b, off, rfl, ?_, ?_⟩
      · have := World.block_lt_of_cell? W _ (hp 0 hpos).1
        simpa [Addr.add] using this
      · intro k hk
        obtain ⟨p0, p1, p2, p3⟩ := hp k hk
        have hadd : ∀ (o i : Nat), (⟨b, o, none⟩ : Addr).add i = ⟨b, o + i, none⟩ := by intro o i; unfold Addr.add; split <;> simp_all
        simp only [hadd] at p0 p1 p2 p3
        exact ⟨p0, p1, p2, p3⟩
set_option maxRecDepth 100000 in
/-- A slice of vectors that came in, opened. -/
theorem open_vecs {H : Type} {enc : TypeId × Value → H} {W : World} {base b0 : Nat} {r : Reach} {sp : Nat → Bool} {held : Bool} {v : Value} {d : DataW H} {p : List MemPlace}
    (hv : Value.okWide Try.prog W r base 46 v) (h : DataW.Trod enc Try.prog W b0 sp held 46 v d p) :
    ∃ (A : Option Addr) (n cap : Nat) (l : List V), v = .slice A n cap ∧ SlV W A n l ∧ n ≤ cap ∧ cap ≤ maxLen := by
  obtain ⟨A, n, cap, rfl⟩ := okWide_slice Try.underlying46 hv
  obtain ⟨fuel, hf⟩ := h
  obtain ⟨l, hl⟩ := trod_vecs (A := A) (n := n) (cap := cap) hf
  exact ⟨A, n, cap, l, rfl, hl⟩
end Go.Proofs.Ytobgolceggeogaa
