/- Slices of vectors, nil ones among them: how they read, Sum's contracts at each of them, and how such a slice that came in is opened. -/
import Derived.Test.YtcfjhmglifpdlaaVec6
import Derived.Test.YtcfjhmglifpdlaaVecO
import Derived.Deep.Slices
import Derived.SizedLaws
namespace Go.Proofs.Ytcfjhmglifpdlaa
open Go.ChangeShapes Go.WideShapes Go.ChangeAt Go.RowKit
/-- The slice at A reads as the list of vectors. -/
def HoldsA (w : World) (A : Option Addr) (l : List V) : Prop := l = [] ∨ ∃ b off, A = some ⟨b, off, none⟩ ∧ b < w.heap.size ∧ HoldsV w b off l
theorem HoldsV.below {w w' : World} {b off : Nat} {l : List V} (h : HoldsV w b off l) (hb : b < w.heap.size) (hw : Below w.heap.size w w') : HoldsV w' b off l := by
  intro j hj
  obtain ⟨h0, h1, h2, h3⟩ := h j hj
  exact ⟨by rw [hw.cell hb]; exact h0, by rw [hw.cell hb]; exact h1, by rw [hw.cell hb]; exact h2, by rw [hw.cell hb]; exact h3⟩
theorem HoldsA.below {w w' : World} {A : Option Addr} {l : List V} (h : HoldsA w A l) (hw : Below w.heap.size w w') : HoldsA w' A l := by
  rcases h with h | ⟨b, off, e, hb, h⟩
  · exact .inl h
  · exact .inr ⟨b, off, e, Nat.lt_of_lt_of_le hb hw.size, h.below hb hw⟩
set_option maxHeartbeats 1000000 in
theorem sum_nil (A : Option Addr) (cap : Nat) (w : World) :
    Calls Try.prog 10 #[.slice A 0 cap] w fun e w' => e = .returned (.tuple #[vv (sumR []).1, .int .i64 (sumR []).2]) ∧ Below w.heap.size w w' := by
  go_enter Try.func10, Try.ntmps10
  go_wp2
  refine wp_loop_rounds 1 ?_
  rw [rounds_succ]
  go_wp2
  refine wp_loop_rounds 1 ?_
  rw [rounds_succ]
  go_wp2
  refine ret_row2 rfl w.heap.size #[.int .i64 0, .int .i64 0, .int .i64 0, .int .i64 0] 25 _ rfl Try.underlying25 rfl infoV rfl (by apply Exists.intro; refine ⟨?_, ?_⟩; (focus ((repeat (first | (with_reducible assumption) | (with_reducible exact alloc_at _ _) | ((with_reducible apply alloc_at'); (simp; done)) | (with_reducible apply alloc_at_lt) | (with_reducible apply heap_drew_at) | (with_reducible apply heap_drewN_at) | (with_reducible apply heap_setCell_same) | ((with_reducible apply heap_set_ne); (first | omega | (simp; done) | (simp; omega))))))); simp) ⟨?_, (by repeat (first | with_reducible assumption | with_reducible exact Below.refl _ _ | with_reducible refine Below.drew ?_ | with_reducible refine below_drewN ?_ _ | with_reducible refine below_alloc ?_ _ | with_reducible refine Below.alloc ?_ (by first | omega | (simp; done) | (simp; omega)) _ | with_reducible refine Below.setCell ?_ (by first | omega | (simp; done) | (simp; omega)) _))⟩
  rfl
set_option maxHeartbeats 1000000 in
theorem rsum_nil (A : Option Addr) (cap : Nat) (w : World) :
    Calls Try.prog 11 #[.slice A 0 cap] w fun e w' => e = .returned (.tuple #[vv (sumR []).1, .int .i64 (sumR []).2]) ∧ Below w.heap.size w w' := by
  go_enter Try.func11, Try.ntmps11
  go_wp2
  refine wp_loop_rounds 1 ?_
  rw [rounds_succ]
  go_wp2
  refine wp_loop_rounds 1 ?_
  rw [rounds_succ]
  go_wp2
  refine ret_row2 rfl w.heap.size #[.int .i64 0, .int .i64 0, .int .i64 0, .int .i64 0] 25 _ rfl Try.underlying25 rfl infoV rfl (by apply Exists.intro; refine ⟨?_, ?_⟩; (focus ((repeat (first | (with_reducible assumption) | (with_reducible exact alloc_at _ _) | ((with_reducible apply alloc_at'); (simp; done)) | (with_reducible apply alloc_at_lt) | (with_reducible apply heap_drew_at) | (with_reducible apply heap_drewN_at) | (with_reducible apply heap_setCell_same) | ((with_reducible apply heap_set_ne); (first | omega | (simp; done) | (simp; omega))))))); simp) ⟨?_, (by repeat (first | with_reducible assumption | with_reducible exact Below.refl _ _ | with_reducible refine Below.drew ?_ | with_reducible refine below_drewN ?_ _ | with_reducible refine below_alloc ?_ _ | with_reducible refine Below.alloc ?_ (by first | omega | (simp; done) | (simp; omega)) _ | with_reducible refine Below.setCell ?_ (by first | omega | (simp; done) | (simp; omega)) _))⟩
  rfl
theorem sum_all (A : Option Addr) (n cap : Nat) (l : List V) (w : World) (hn : n = l.length) (hm : l.length ≤ 9223372036854775807) (hl : HoldsA w A l) :
    Calls Try.prog 10 #[.slice A n cap] w fun e w' => e = .returned (.tuple #[vv (sumR l).1, .int .i64 (sumR l).2]) ∧ Below w.heap.size w w' := by
  subst hn
  rcases hl with rfl | ⟨b, off, rfl, hb, hl⟩
  · exact sum_nil A cap w
  · exact sum_any b off cap l w hb hm hl
theorem rsum_all (A : Option Addr) (n cap : Nat) (l : List V) (w : World) (hn : n = l.length) (hm : l.length ≤ 9223372036854775807) (hl : HoldsA w A l) :
    Calls Try.prog 11 #[.slice A n cap] w fun e w' => e = .returned (.tuple #[vv (sumR l).1, .int .i64 (sumR l).2]) ∧ Below w.heap.size w w' := by
  subst hn
  rcases hl with rfl | ⟨b, off, rfl, hb, hl⟩
  · exact rsum_nil A cap w
  · exact rsum_any b off cap l w hb hm hl
/-- The list's cells, one behind the other. -/
def flatV : List V → List Value
  | [] => []
  | v :: l => .int .i64 v.1 :: .int .i64 v.2.1 :: .int .i64 v.2.2.1 :: .int .i64 v.2.2.2 :: flatV l
theorem flatV_length (l : List V) : (flatV l).length = l.length * 4 := by
  induction l with
  | nil => rfl
  | cons v l ih => simp only [flatV, List.length_cons, ih]; omega
theorem flatV_at (l : List V) : ∀ j, (h : j < l.length) → (flatV l)[j * 4]? = some (.int .i64 l[j].1) ∧ (flatV l)[j * 4 + 1]? = some (.int .i64 l[j].2.1) ∧ (flatV l)[j * 4 + 2]? = some (.int .i64 l[j].2.2.1) ∧ (flatV l)[j * 4 + 3]? = some (.int .i64 l[j].2.2.2) := by
  induction l with
  | nil => intro j h; simp at h
  | cons v l ih =>
    intro j h
    cases j with
    | zero => simp [flatV]
    | succ j =>
      have hj : j < l.length := by simpa using h
      have := ih j hj
      simp only [flatV, show (j + 1) * 4 = j * 4 + 1 + 1 + 1 + 1 by omega, List.getElem?_cons_succ, List.getElem_cons_succ]
      exact this
theorem flatV_one (l : List V) : ∀ u ∈ flatV l, u.oneCell' = true := by
  induction l with
  | nil => intro u h; simp [flatV] at h
  | cons v l ih =>
    intro u h
    simp only [flatV, List.mem_cons] at h
    rcases h with rfl | rfl | rfl | rfl | h
    · rfl
    · rfl
    · rfl
    · rfl
    · exact ih u h
/-- Cell by cell, of a slice that reads as l. -/
theorem HoldsV.flat {w : World} {b off : Nat} {l : List V} (h : HoldsV w b off l) : ∀ j u, (flatV l)[j]? = some u → w.cell? ((⟨b, off, none⟩ : Addr).add j) = some u := by
  intro j u hu
  have hj : j < l.length * 4 := by rw [← flatV_length]; exact (List.getElem?_eq_some_iff.1 hu).1
  have hadd : ∀ i, (⟨b, off, none⟩ : Addr).add i = ⟨b, off + i, none⟩ := by intro i; unfold Addr.add; split <;> simp_all
  have hq : j / 4 < l.length := by omega
  obtain ⟨h0, h1, h2, h3⟩ := h (j / 4) hq
  obtain ⟨f0, f1, f2, f3⟩ := flatV_at l (j / 4) hq
  rw [hadd]
  have e : j = j / 4 * 4 ∨ j = j / 4 * 4 + 1 ∨ j = j / 4 * 4 + 2 ∨ j = j / 4 * 4 + 3 := by omega
  generalize j / 4 = k at *
  rcases e with rfl | rfl | rfl | rfl
  · rw [hu] at f0; rw [f0]; exact h0
  · rw [hu] at f1; rw [f1]; exact h1
  · rw [hu] at f2; rw [f2]; exact h2
  · rw [hu] at f3; rw [f3]; exact h3
/-- A row of the call's own that holds the list's cells reads as the list. -/
theorem holdsA_of_own {w : World} {base n : Nat} {v : Value} {l : List V} (hn : n = l.length) (h : w.ownsRow base 25 4 v n (flatV l)) :
    ∃ A cap, v = .slice A n cap ∧ HoldsA w A l := by
  obtain ⟨_, ⟨rfl, h0⟩ | ⟨g, cap, cur, rfl, _, hh, _, _, _, ht⟩⟩ := h
  · exact ⟨none, 0, by rw [h0], .inl (List.length_eq_zero_iff.1 (by omega))⟩
  · refine ⟨_, cap, rfl, .inr ⟨g, 0, rfl, ?_, ?_⟩⟩
    · rcases Nat.lt_or_ge g w.heap.size with h' | h'
      · exact h'
      · rw [Array.getElem?_eq_none h'] at hh; cases hh
    · have key : ∀ i u, (flatV l)[i]? = some u → w.cell? ⟨g, 0 + i, none⟩ = some u := by
        intro i u hu
        rw [blk_cell hh, Nat.zero_add]
        rw [← ht, List.getElem?_take] at hu
        split at hu
        · simpa using hu
        · cases hu
      intro j hj
      obtain ⟨f0, f1, f2, f3⟩ := flatV_at l j hj
      exact ⟨key _ _ f0, key _ _ f1, key _ _ f2, key _ _ f3⟩
theorem list_of {P : Nat → V → Prop} : ∀ n, (∀ i, i < n → ∃ v, P i v) → ∃ l : List V, l.length = n ∧ ∀ i, (h : i < l.length) → P i l[i]
  | 0, _ => ⟨[], rfl, fun i h => by simp at h⟩
  | n + 1, h => by
    obtain ⟨l, hl, hp⟩ := list_of n (fun i hi => h i (by omega))
    obtain ⟨v, hv⟩ := h n (by omega)
    refine ⟨l ++ [v], by simp [hl], fun i hi => ?_⟩
    by_cases e : i < l.length
    · rw [List.getElem_append_left e]; exact hp i e
    · have : i = n := by simp at hi; omega
      subst this
      rw [List.getElem_append_right (by omega)]
      simpa [hl] using hv
theorem bytesV : Try.prog.bytesOf 25 = 32 := by kernel_rfl
/-- A slice of vectors that came in, opened. -/
theorem open_vecs {H : Type} {enc : TypeId × Value → H} {W : World} {base : Nat} {r : Reach} {sp : Nat → Bool} {held : Bool} {v : Value} {d : DataW H} {p : List MemPlace} {ts : List TypeId} {ds : List (DataW H)} {j : Nat}
    (hv : Value.okWide Try.prog W r base 22 v) (h : DataW.Trod enc Try.prog W 0 sp held 22 v d p)
    (hsz : (DataW.weightsEach Try.prog ts ds).all (· ≤ reachBytes) = true) (ht : ts[j]? = some 22) (hd : ds[j]? = some d) :
    ∃ (A : Option Addr) (n cap : Nat) (l : List V), v = .slice A n cap ∧ n = l.length ∧ n * 32 ≤ 140737488351232 ∧ HoldsA W A l ∧ (A = none → n = 0 ∧ cap = 0) ∧ (∀ a, A = some a → ∃ b off spot, a = ⟨b, off, spot⟩ ∧ (0 < n → spot = none)) := by
  obtain ⟨A, n, cap, rfl⟩ := okWide_slice Try.underlying22 hv
  obtain ⟨fuel, hf⟩ := h
  rcases Go.Deep.open_slice Try.underlying22 hf with ⟨hcs, _⟩ | ⟨a, len, cap', m, nn, D, Pl, hcs, _, hle, hmx, hmm, hx, hel⟩
  · simp [Value.cells] at hcs
    obtain ⟨rfl, rfl, rfl⟩ := hcs
    exact ⟨none, 0, 0, [], rfl, rfl, by omega, .inl rfl, (fun _ => ⟨rfl, rfl⟩), (fun a h => by cases h)⟩
  · simp [Value.cells] at hcs
    obtain ⟨rfl, rfl, rfl⟩ := hcs
    obtain ⟨rfl, rfl⟩ : d = _ ∧ p = _ := by simpa using hx
    have hw := sized_slice hsz ht hd Try.underlying22
    rw [bytesV] at hw
    simp only [List.length_map, List.length_range, reachBytes] at hw
    have hnm : n ≤ m := by rw [hmm]; split <;> omega
    have key : ∀ i, i < n → ∃ v : V, W.cell? (a.add (i * 4)) = some (.int .i64 v.1) ∧ W.cell? ((a.add (i * 4)).add 1) = some (.int .i64 v.2.1) ∧ W.cell? ((a.add (i * 4)).add 2) = some (.int .i64 v.2.2.1) ∧ W.cell? ((a.add (i * 4)).add 3) = some (.int .i64 v.2.2.2) := by
      intro i hi
      obtain ⟨cs', h1, h2⟩ := hel i (by omega)
      rw [cellsV] at h1
      obtain ⟨x0, x1, x2, x3, rfl⟩ := trod_vec h2
      obtain ⟨_, _, h3⟩ := World.cells?_some h1
      have q0 := h3 0 (by omega)
      have q1 := h3 1 (by omega)
      have q2 := h3 2 (by omega)
      have q3 := h3 3 (by omega)
      simp at q0 q1 q2 q3
      refine ⟨(x0, x1, x2, x3), ?_, q1, q2, q3⟩
      have e0 : (a.add (i * 4)).add 0 = a.add (i * 4) := by simp [Addr.add]
      rw [e0] at q0; exact q0
    obtain ⟨l, hl, hp⟩ := list_of n key
    obtain ⟨b, off, spot⟩ := a
    refine ⟨_, n, cap, l, rfl, hl.symm, by omega, ?_, (fun h => by cases h), ?_⟩
    · by_cases h0 : l = []
      · exact .inl h0
      · have hpos : 0 < l.length := List.length_pos_iff.2 h0
        have hs : spot = none := by
          have := World.cell?_spot (hp 0 hpos).1
          simpa [Addr.add] using this
        subst hs
        refine .inr ⟨b, off, rfl, ?_, ?_⟩
        · have := World.block_lt_of_cell? W _ (hp 0 hpos).1
          simpa [Addr.add] using this
        · intro k hk
          obtain ⟨p0, p1, p2, p3⟩ := hp k hk
          have hadd : ∀ (o i : Nat), (⟨b, o, none⟩ : Addr).add i = ⟨b, o + i, none⟩ := by intro o i; unfold Addr.add; split <;> simp_all
          simp only [hadd] at p0 p1 p2 p3
          exact ⟨p0, p1, p2, p3⟩
    · intro a' ha'
      cases ha'
      refine ⟨b, off, spot, rfl, fun hpos => ?_⟩
      have := World.cell?_spot (hp 0 (by omega)).1
      simpa [Addr.add] using this
end Go.Proofs.Ytcfjhmglifpdlaa
