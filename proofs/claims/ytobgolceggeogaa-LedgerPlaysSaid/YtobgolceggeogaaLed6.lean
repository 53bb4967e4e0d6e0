/- Contract of chapter 13's Left; and the contracts of the ledger as a caller wants them: one word for a ledger made behind a place B of the heap. -/
import Derived.Test.YtobgolceggeogaaLed5
import Derived.Test.YtobgolceggeogaaLed4
import Derived.Test.YtobgolceggeogaaVecE
namespace Go.Proofs.Ytobgolceggeogaa
open Go.RowKit
def leftOf (A : Acc) (k : List UInt8) : V := (max 0 ((limOf A k).1 - (usedOf A k).1), max 0 ((limOf A k).2.1 - (usedOf A k).2.1), max 0 ((limOf A k).2.2.1 - (usedOf A k).2.2.1), max 0 ((limOf A k).2.2.2 - (usedOf A k).2.2.2))
theorem Inv.getD {A : Acc} (h : Inv A) (k : List UInt8) : okV ((A k).getD zeroA).1 = true ∧ okV ((A k).getD zeroA).2 = true := by
  cases hA : A k with
  | none => exact ⟨rfl, rfl⟩
  | some x => exact h k x hA
set_option maxHeartbeats 2000000 in
theorem left_any (L n : Nat) (m : Option Nat) (A : Acc) (s : ByteArray) (w : World) (hL : Led w L m n A) (hi : Inv A) (hs : s.size ≤ maxLen) :
    Calls Try.prog 18 #[.pointer (some ⟨L, 0, none⟩), .string s] w fun e w' => e = .returned (.tuple #[vv (leftOf A s.data.toList), .int .i64 (if (A s.data.toList).isSome then 0 else 3)]) ∧ Below w.heap.size w w' := by
  have hlt := led_lt hL
  have hget : ∀ o, Calls Try.prog 31 #[.pointer (some ⟨L, 0, none⟩), .string s] (w.alloc o) fun e w' => e = .returned (.tuple #[acctV ((A s.data.toList).getD zeroA), .int .i64 (if (A s.data.toList).isSome then 0 else 3)]) ∧ Below (w.alloc o).heap.size (w.alloc o) w' :=
    fun o => get_any L n m A s (w.alloc o) (hL.below ((Below.refl _ _).alloc (Nat.le_refl _) o)) hs
  obtain ⟨hb1, hb2⟩ := hi.getD s.data.toList
  clear hL hi hs
  unfold leftOf limOf usedOf
  obtain ⟨⟨⟨x0, x1, x2, x3⟩, y0, y1, y2, y3⟩, hx⟩ : ∃ x, x = (A s.data.toList).getD zeroA := ⟨_, rfl⟩
  obtain ⟨q, hq⟩ : ∃ q : Int, q = if (A s.data.toList).isSome then 0 else 3 := ⟨_, rfl⟩
  rw [← hx, ← hq] at hget
  rw [← hx] at hb1 hb2
  rw [← hx, ← hq]
  obtain ⟨⟨l0, r0⟩, ⟨l1, r1⟩, ⟨l2, r2⟩, ⟨l3, r3⟩⟩ := (okV_iff _).1 hb1
  obtain ⟨⟨m0, n0⟩, ⟨m1, n1⟩, ⟨m2, n2⟩, ⟨m3, n3⟩⟩ := (okV_iff _).1 hb2
  simp only at l0 r0 l1 r1 l2 r2 l3 r3 m0 n0 m1 n1 m2 n2 m3 n3
  simp only [acctV, vv] at hget ⊢
  clear hx hq hb1 hb2
  go_enter Try.func18, Try.ntmps18
  go_wp2_with fail
  refine (hget _).mono ?_
  rintro e w1 ⟨rfl, hb1⟩
  have hs1 := hb1.size
  simp only [World.size_alloc] at hs1
  have B1 : Below w.heap.size w w1 := Below.trans (by repeat (first | with_reducible assumption | with_reducible exact Below.refl _ _ | with_reducible refine Below.drew ?_ | with_reducible refine below_drewN ?_ _ | with_reducible refine below_alloc ?_ _ | with_reducible refine Below.alloc ?_ (by first | omega | (simp; done) | (simp; omega)) _ | with_reducible refine Below.setCell ?_ (by first | omega | (simp; done) | (simp; omega)) _ | with_reducible refine below_setRow ?_ (by first | omega | (simp; done) | (simp; omega)) _)) (hb1.mono (by first | omega | (simp; done) | (simp; omega)))
  have z := below_at hb1 (n := w.heap.size) (by first | omega | (simp; done) | (simp; omega)) (by (repeat (first | (with_reducible assumption) | (with_reducible exact alloc_at _ _) | ((with_reducible apply alloc_at'); (simp; done)) | (with_reducible apply alloc_at_lt) | (with_reducible apply heap_drew_at) | (with_reducible apply heap_drewN_at) | (with_reducible apply heap_setCell_same) | ((with_reducible apply heap_set_ne); (first | omega | (dsimp only; omega) | (simp; done) | (simp; omega))) | (with_reducible apply setRow_at) | ((with_reducible apply setRow_ne); (first | omega | (dsimp only; omega) | (simp; done) | (simp; omega))))))
  obtain ⟨z0, z1, z2, z3, zf⟩ := four z
  have hl1 : w.heap.size < w1.heap.size := by omega
  have Z := hid z
  clear z hget hb1
  go_wp2
  refine wp_loop_rounds 5 ?_
  iterate 4 (rw [rounds_succ]; go_wp2; go_region; go_wp2)
  rw [rounds_succ]
  go_wp2
  have z := Z.out
  refine ret_row2 rfl w.heap.size #[.int .i64 (max 0 (x0 - y0)), .int .i64 (max 0 (x1 - y1)), .int .i64 (max 0 (x2 - y2)), .int .i64 (max 0 (x3 - y3))] 29 _ rfl Try.underlying29 rfl infoV rfl (by apply Exists.intro; refine ⟨?_, ?_⟩; (focus ((repeat (first | (with_reducible assumption) | (with_reducible exact alloc_at _ _) | ((with_reducible apply alloc_at'); (simp; done)) | (with_reducible apply alloc_at_lt) | (with_reducible apply heap_drew_at) | (with_reducible apply heap_drewN_at) | (with_reducible apply heap_setCell_same) | ((with_reducible apply heap_set_ne); (first | omega | (dsimp only; omega) | (simp; done) | (simp; omega))) | (with_reducible apply setRow_at) | ((with_reducible apply setRow_ne); (first | omega | (dsimp only; omega) | (simp; done) | (simp; omega))))))); simp) ⟨rfl, (by repeat (first | with_reducible assumption | with_reducible exact Below.refl _ _ | with_reducible refine Below.drew ?_ | with_reducible refine below_drewN ?_ _ | with_reducible refine below_alloc ?_ _ | with_reducible refine Below.alloc ?_ (by first | omega | (simp; done) | (simp; omega)) _ | with_reducible refine Below.setCell ?_ (by first | omega | (simp; done) | (simp; omega)) _ | with_reducible refine below_setRow ?_ (by first | omega | (simp; done) | (simp; omega)) _))⟩
/-- A ledger that was made behind place B. -/
def LedB (B : Nat) (w : World) (L n : Nat) (A : Acc) : Prop := n ≤ 64 ∧ Inv A ∧ B ≤ L ∧ ∃ m, Led w L m n A ∧ ∀ b, m = some b → B ≤ b
/-- Each block of cells but L is as it was. -/
def KeptC (w w' : World) (L : Nat) : Prop := ∀ k cs t f, k ≠ L → w.heap[k]? = some (.cells cs t f) → w'.heap[k]? = some (.cells cs t f)
theorem KeptC.trans {a b c : World} {L : Nat} (h : KeptC a b L) (k : KeptC b c L) : KeptC a c L := fun i cs t f hi hc => k i cs t f hi (h i cs t f hi hc)
theorem keptC_below {w w' : World} (h : Below w.heap.size w w') (L : Nat) : KeptC w w' L := fun k cs t f _ hc => (h.block k (lt_of_at hc)).trans hc
theorem LedB.lt {B : Nat} {w : World} {L n : Nat} {A : Acc} (h : LedB B w L n A) : L < w.heap.size := by
  obtain ⟨-, -, -, m, h, -⟩ := h
  exact led_lt h
theorem LedB.below {B : Nat} {w w' : World} {L n : Nat} {A : Acc} (h : LedB B w L n A) (hw : Below w.heap.size w w') : LedB B w' L n A := by
  obtain ⟨h1, h2, h3, m, h, hm⟩ := h
  exact ⟨h1, h2, h3, m, h.below hw, hm⟩
/-- The ledger's map is no block of cells: so a store into a cell of another block than L leaves it. -/
theorem LedB.setCell {B : Nat} {w : World} {L n : Nat} {A : Acc} (h : LedB B w L n A) {g i : Nat} {cs : Array Value} {t : TypeId} {f : Nat × Nat} (hg : w.heap[g]? = some (.cells cs t f)) (hne : g ≠ L) (v : Value) : LedB B (w.setCell ⟨g, i, none⟩ v) L n A := by
  obtain ⟨h1, h2, h3, m, h, hm⟩ := h
  refine ⟨h1, h2, h3, m, h.at (heap_setCell_other w ⟨g, i, none⟩ L v (fun e => hne e.symm)) (fun b e => heap_setCell_other w ⟨g, i, none⟩ b v (fun e2 => ?_)), hm⟩
  subst e
  exact OwnsM.ne h.2 hg e2.symm
theorem kept_only {w w' : World} {L b : Nat} (h : w.grownBy w' (some b)) (hm : ∀ cs t f, w.heap[b]? = some (.cells cs t f) → b = L) : KeptC w w' L := fun k cs t f hk hc =>
  (h.block k (lt_of_at hc) (by intro e; injection e with e; subst e; exact hk (hm _ _ _ hc))).trans hc
theorem new_b (B : Nat) (w : World) (hB : B ≤ w.heap.size) : Calls Try.prog 10 #[] w fun e w' => e = .returned (.pointer (some ⟨w.heap.size, 0, none⟩)) ∧ Below w.heap.size w w' ∧ LedB B w' w.heap.size 0 noA :=
  (new_any w).mono fun _ _ ⟨h1, h2, h3⟩ => ⟨h1, h2, by omega, inv_none, hB, none, h3, fun b e => by cases e⟩
theorem openN_le {A : Acc} {n : Nat} {k : List UInt8} {v : V} (h : n ≤ 64) : openN A n k v ≤ 64 := by
  unfold openN
  split
  · rename_i h0
    split
    · exact h
    · rename_i hA
      unfold openE at h0
      split at h0
      · split at h0
        · rename_i h2
          simp at h2
          rcases h2 with h2 | h2
          · exact absurd h2 hA
          · omega
        · omega
      · omega
  · exact h
theorem open_b (B L n : Nat) (A : Acc) (s : ByteArray) (a b c d : Int) (w : World) (hB : B ≤ w.heap.size) (hL : LedB B w L n A) (hs : s.size ≤ maxLen) :
    Calls Try.prog 11 #[.pointer (some ⟨L, 0, none⟩), .string s, .agg #[.int .i64 a, .int .i64 b, .int .i64 c, .int .i64 d]] w fun e w' =>
      e = .returned (.int .i64 (openE A n s.data.toList (a, b, c, d))) ∧ LedB B w' L (openN A n s.data.toList (a, b, c, d)) (openA A n s.data.toList (a, b, c, d)) ∧ Below B w w' ∧ KeptC w w' L := by
  obtain ⟨h1, h2, h3, m, h, hm⟩ := hL
  have hinv := h2.open_ n s.data.toList (a, b, c, d)
  have hle := openN_le (A := A) (k := s.data.toList) (v := (a, b, c, d)) h1
  have hn : n < maxLen := by unfold maxLen; omega
  cases hv : okV (a, b, c, d) with
  | false =>
    have hE : openE A n s.data.toList (a, b, c, d) = 4 := by simp [openE, hv]
    have hA : openA A n s.data.toList (a, b, c, d) = A := by simp [openA, hE]
    have hN : openN A n s.data.toList (a, b, c, d) = n := by simp [openN, hE]
    rw [hE, hA, hN]
    exact (open_form L n m A s a b c d w h hv).mono fun _ w' ⟨g1, g2⟩ => ⟨g1, ⟨h1, h2, h3, m, h.below g2, hm⟩, g2.mono hB, keptC_below g2 L⟩
  | true =>
    cases hk : A s.data.toList with
    | some y =>
      have hE : openE A n s.data.toList (a, b, c, d) = 0 := by simp [openE, hv, hk]
      have hA : openA A n s.data.toList (a, b, c, d) = putA A s.data.toList ((a, b, c, d), y.2) := by simp [openA, hE, hk]
      have hN : openN A n s.data.toList (a, b, c, d) = n := by simp [openN, hE, hk]
      rw [hA] at hinv
      rw [hE, hA, hN]
      obtain ⟨x, y0, y1, y2, y3⟩ := y
      cases m with
      | none => rw [h.2.2] at hk; cases hk
      | some b' =>
        exact (open_old L n b' A s a b c d w h hs hn hv x y0 y1 y2 y3 hk).mono fun _ w' ⟨g1, g2, g3⟩ => ⟨g1, ⟨h1, hinv, h3, some b', g2, hm⟩, below_grown g3 hB hm, kept_only g3 (fun cs t f hc => absurd rfl (OwnsM.ne h.2 hc))⟩
    | none =>
      by_cases hf : n < 64
      · have hE : openE A n s.data.toList (a, b, c, d) = 0 := by simp [openE, hv, hf]
        have hA : openA A n s.data.toList (a, b, c, d) = putA A s.data.toList ((a, b, c, d), zeroV) := by simp [openA, hE, hk, zeroA]
        have hN : openN A n s.data.toList (a, b, c, d) = n + 1 := by simp [openN, hE, hk]
        rw [hA] at hinv
        rw [hN] at hle
        rw [hE, hA, hN]
        cases m with
        | none =>
          obtain ⟨hc, rfl, rfl⟩ := h
          exact (open_first L s a b c d w ⟨hc, rfl, rfl⟩ hs hv).mono fun _ w' ⟨g1, b', g2, g3, g4⟩ => ⟨g1, ⟨hle, hinv, h3, some b', g3, fun _ e => by cases e; omega⟩, below_grown g4 hB (fun j e => by cases e; exact h3), kept_only g4 (fun _ _ _ _ => rfl)⟩
        | some b' =>
          exact (open_new L n b' A s a b c d w h hs hn (by omega) hv hk).mono fun _ w' ⟨g1, g2, g3⟩ => ⟨g1, ⟨hle, hinv, h3, some b', g2, hm⟩, below_grown g3 hB hm, kept_only g3 (fun cs t f hc => absurd rfl (OwnsM.ne h.2 hc))⟩
      · have hE : openE A n s.data.toList (a, b, c, d) = 6 := by simp [openE, hv, hf, hk]
        have hA : openA A n s.data.toList (a, b, c, d) = A := by simp [openA, hE]
        have hN : openN A n s.data.toList (a, b, c, d) = n := by simp [openN, hE]
        rw [hE, hA, hN]
        cases m with
        | none => obtain ⟨-, rfl, -⟩ := h; omega
        | some b' => exact (open_full L n b' A s a b c d w h hs hv hk (by omega)).mono fun _ w' ⟨g1, g2⟩ => ⟨g1, ⟨h1, h2, h3, some b', h.below g2, hm⟩, g2.mono hB, keptC_below g2 L⟩
theorem Inv.take {A : Acc} (h : Inv A) (l : List Ent) : Inv (takeR A l) := by
  unfold takeR
  split
  · rename_i h0
    unfold takeE at h0
    split at h0
    · rename_i hg
      split at h0
      · rename_i hall
        intro k x hk
        unfold takeA at hk
        split at hk
        · rename_i s hS
          obtain ⟨a, hA⟩ := gath_acct hg hS
          rw [hA] at hk
          cases hk
          refine ⟨(h k a hA).1, ?_⟩
          obtain ⟨e, he, rfl⟩ := sums_from hS
          have := List.all_eq_true.1 hall e he
          unfold takeFits usedOf limOf at this
          rw [hA, hS] at this
          exact okV_add (h _ _ hA).2 (sumsOf_ok (gath_form hg) _ _ hS) (h _ _ hA).1 this
        · exact h k x hk
      · omega
    · rename_i hg; exact absurd h0 hg
  · exact h
theorem okV_sub {u s : V} (hu : okV u = true) (hs : ok2 s.1 ∧ ok2 s.2.1 ∧ ok2 s.2.2.1 ∧ ok2 s.2.2.2) (hf : fitsV s u = true) : okV (subV u s) = true := by
  rw [okV_iff] at hu ⊢
  obtain ⟨u0, u1, u2, u3⟩ := hu
  obtain ⟨s0, s1, s2, s3⟩ := hs
  unfold ok2 at s0 s1 s2 s3
  unfold fitsV fitsB at hf
  have hf := of_decide_eq_true hf
  simp only [subV]
  omega
theorem Inv.give {A : Acc} (h : Inv A) (l : List Ent) : Inv (giveR A l) := by
  unfold giveR
  split
  · rename_i h0
    unfold giveE at h0
    split at h0
    · rename_i hg
      split at h0
      · rename_i hall
        intro k x hk
        unfold giveA at hk
        split at hk
        · rename_i s hS
          obtain ⟨a, hA⟩ := gath_acct hg hS
          rw [hA] at hk
          cases hk
          refine ⟨(h k a hA).1, ?_⟩
          obtain ⟨e, he, rfl⟩ := sums_from hS
          have := List.all_eq_true.1 hall e he
          unfold giveFits usedOf at this
          rw [hA, hS] at this
          exact okV_sub (h _ _ hA).2 (sumsOf_ok (gath_form hg) _ _ hS) this
        · exact h k x hk
      · omega
    · rename_i hg; exact absurd h0 hg
  · exact h
theorem grown_none {w w' : World} {B : Nat} (h : w.grownBy w' none) (hB : B ≤ w.heap.size) : Below B w w' := below_grown h hB (fun j e => by cases e)
theorem take_b (B L n : Nat) (A : Acc) (S : Option Addr) (len cap : Nat) (l : List Ent) (w : World) (hB : B ≤ w.heap.size) (hL : LedB B w L n A) (hm : l.length ≤ maxLen) (hl : SlE w S len l) :
    Calls Try.prog 12 #[.pointer (some ⟨L, 0, none⟩), .slice S len cap] w fun e w' => e = .returned (.int .i64 (takeE A l)) ∧ LedB B w' L n (takeR A l) ∧ Below B w w' ∧ KeptC w w' L := by
  obtain ⟨h1, h2, h3, m, h, hmb⟩ := hL
  refine (take_any L n m A S len cap l w h h2 (by unfold maxLen; omega) hm hl).mono ?_
  rintro e w' ⟨g1, g2, g3⟩
  refine ⟨g1, ⟨h1, h2.take l, h3, m, g2, hmb⟩, below_grown g3 hB hmb, ?_⟩
  cases m with
  | none => exact keptC_below (grown_none g3 (Nat.le_refl _)) L
  | some b' => exact kept_only g3 (fun cs t f hc => absurd rfl (OwnsM.ne h.2 hc))
theorem give_b (B L n : Nat) (A : Acc) (S : Option Addr) (len cap : Nat) (l : List Ent) (w : World) (hB : B ≤ w.heap.size) (hL : LedB B w L n A) (hm : l.length ≤ maxLen) (hl : SlE w S len l) :
    Calls Try.prog 21 #[.pointer (some ⟨L, 0, none⟩), .slice S len cap] w fun e w' => e = .returned (.int .i64 (giveE A l)) ∧ LedB B w' L n (giveR A l) ∧ Below B w w' ∧ KeptC w w' L := by
  obtain ⟨h1, h2, h3, m, h, hmb⟩ := hL
  refine (give_any L n m A S len cap l w h h2 (by unfold maxLen; omega) hm hl).mono ?_
  rintro e w' ⟨g1, g2, g3⟩
  refine ⟨g1, ⟨h1, h2.give l, h3, m, g2, hmb⟩, below_grown g3 hB hmb, ?_⟩
  cases m with
  | none => exact keptC_below (grown_none g3 (Nat.le_refl _)) L
  | some b' => exact kept_only g3 (fun cs t f hc => absurd rfl (OwnsM.ne h.2 hc))
theorem used_b (B L n : Nat) (A : Acc) (s : ByteArray) (w : World) (hL : LedB B w L n A) (hs : s.size ≤ maxLen) :
    Calls Try.prog 13 #[.pointer (some ⟨L, 0, none⟩), .string s] w fun e w' => e = .returned (.tuple #[vv (usedOf A s.data.toList), .int .i64 (if (A s.data.toList).isSome then 0 else 3)]) ∧ Below w.heap.size w w' := by
  obtain ⟨-, -, -, m, h, -⟩ := hL
  exact used_any L n m A s w h hs
theorem left_b (B L n : Nat) (A : Acc) (s : ByteArray) (w : World) (hL : LedB B w L n A) (hs : s.size ≤ maxLen) :
    Calls Try.prog 18 #[.pointer (some ⟨L, 0, none⟩), .string s] w fun e w' => e = .returned (.tuple #[vv (leftOf A s.data.toList), .int .i64 (if (A s.data.toList).isSome then 0 else 3)]) ∧ Below w.heap.size w w' := by
  obtain ⟨-, h2, -, m, h, -⟩ := hL
  exact left_any L n m A s w h h2 hs
end Go.Proofs.Ytobgolceggeogaa
