/- Chapter 1: the program's Words: what stands in memory while it goes. -/
import Derived.Test.YtidcbcljeofooaaGreatDoorBld
import Derived.Test.YtidcbcljeofooaaGreatDoorWrd
import Derived.Deep.AppendLies
import Derived.OwnWalk
namespace Go.Proofs.YtidcbcljeofooaaGreatDoor
open Go.RowKit
def flatS (l : List ByteArray) : List Value := l.map .string
theorem flatS_length (l : List ByteArray) : (flatS l).length = l.length := by simp [flatS]
theorem rowS_at {w w' : World} {v : Value} {B t z k : Nat} {xs : List Value} (h : w.ownsRow B t z v k xs) (e : ∀ g, v.ownBlock = some g → w'.heap[g]? = w.heap[g]?) : w'.ownsRow B t z v k xs := by
  obtain ⟨h3, h4 | ⟨g, cap, cur, rfl, hg, hh, rest⟩⟩ := h
  · exact ⟨h3, .inl h4⟩
  · exact ⟨h3, .inr ⟨g, cap, cur, rfl, hg, (e g rfl).trans hh, rest⟩⟩
theorem rowS_kind {w : World} {v : Value} {B t z k : Nat} {xs : List Value} (h : w.ownsRow B t z v k xs) {g : Nat} (hg : v.ownBlock = some g) : ∃ cur fz, w.heap[g]? = some (.cells cur t fz) := by
  obtain ⟨h3, ⟨rfl, -⟩ | ⟨g', cap, cur, rfl, hg', hh, rest⟩⟩ := h
  · cases hg
  · cases hg; exact ⟨_, _, hh⟩
theorem rowS_slice {w : World} {B n t : Nat} {v : Value} {xs : List Value} {z : Nat} (h : w.ownsRow B t z v n xs) : ∃ A cap, v = .slice A n cap := by
  obtain ⟨-, ⟨rfl, h0⟩ | ⟨g, cap, cur, rfl, _⟩⟩ := h
  · exact ⟨none, 0, by rw [h0]⟩
  · exact ⟨_, cap, rfl⟩
/-- Words under way: the builder at block B, the iterator behind it, the words' row. -/
structure Wd (w wr : World) (s : ByteArray) (B p : Nat) (bs : List UInt8) (l : List ByteArray) (v : Value) : Prop where
  le : w.heap.size ≤ B
  bel : Below w.heap.size w wr
  it : wr.heap[B + 1]? = some (.stringIter s p)
  ple : p ≤ s.size
  bd : Lib.IsBuilderF 90 5 B B (Lib.byteCells bs) wr
  row : wr.ownsRow B 9 1 v l.length (flatS l)
  small : bs.length ≤ 4 * p ∧ l.length ≤ p
section
variable {w wr w' : World} {s : ByteArray} {B p : Nat} {bs : List UInt8} {l : List ByteArray} {v : Value}
theorem bld_block {T e b0 B : Nat} {xs : List Value} {w : World} (h : Lib.IsBuilderF T e b0 B xs w) : ∃ cs, w.heap[B]? = some (.cells cs T (0, 0)) := by
  rcases h with h | h <;> obtain ⟨-, v, hb, -⟩ := h <;> exact ⟨_, hb⟩
theorem Wd.size (h : Wd w wr s B p bs l v) : B + 1 < wr.heap.size := lt_of_at h.it
theorem Wd.pos (h : Wd w wr s B p bs l v) : wr.iterPos (B + 1) = p := by unfold World.iterPos; rw [h.it]
theorem Wd.next (h : Wd w wr s B p bs l v) (hp : p < s.size) : Wd w (itAt wr (B + 1) s (p + (Utf8.decode s p).2)) s B (p + (Utf8.decode s p).2) bs l v := by
  have h1 := dec_pos hp
  refine ⟨h.le, h.bel.trans (itAt_below.mono (by have := h.le; omega)), itAt_heap h.size, dec_le hp, h.bd.iterAt h.it _, rowS_at h.row (fun g hg => ?_), ?_⟩
  · obtain ⟨cur, fz, hh⟩ := rowS_kind h.row hg
    have : g ≠ B + 1 := fun e => by rw [e, h.it] at hh; cases hh
    exact Lib.iterAt_other wr (B + 1) g s _ this
  · have := h.small; omega
/-- Behind a call of the builder's that leaves other blocks. -/
theorem Wd.wrote (h : Wd w wr s B p bs l v) {bs' : List UInt8} (hb : Lib.IsBuilderF 90 5 B B (Lib.byteCells bs') w') (hbel : Below B wr w') (hk : Lib.OthersKept 5 (some B) wr w') (hl : bs'.length ≤ 4 * p) : Wd w w' s B p bs' l v := by
  refine ⟨h.le, h.bel.trans (hbel.mono h.le), hk.iter h.it (by omega), h.ple, hb, rowS_at h.row (fun g hg => ?_), hl, h.small.2⟩
  obtain ⟨cur, fz, hh⟩ := rowS_kind h.row hg
  obtain ⟨cs, hb0⟩ := bld_block h.bd
  have : g ≠ B := fun e => by
    rw [e, hb0] at hh
    injection hh with h1; injection h1 with h2 h3 h4
    exact absurd h3 (by decide)
  rw [hh]
  exact hk g _ hh (fun e => this (Option.some.inj e)) (fun c fz' e => by injection e with h1 h2 h3; exact absurd h2 (by decide))
theorem info_str : ∃ i0, Tryz.prog.info? 9 = some i0 ∧ i0.zero = some (.string ⟨#[]⟩) ∧ i0.size = 1 ∧ i0.bytes = 16 := info_parts (by kernel_rfl)
theorem app_str {B : Nat} {W : World} {v : Value} {l : List ByteArray} (hB : B ≤ W.heap.size) (hR : W.ownsRow B 9 1 v l.length (flatS l)) (hm : l.length ≤ 8000000000000) (ty : TypeId) (x : ByteArray) (ad : Addr) (had : ∀ j u, ([Value.string x])[j]? = some u → W.cell? (ad.add j) = some u) :
    ∃ g cap' w', (Builtin.append_ #[29, 29] ty #[v, .slice (some ad) 1 1]).run Tryz.prog W = .ok (.slice (some ⟨g, 0, none⟩) (l.length + 1) cap') w' ∧
      w'.ownsRow B 9 1 (.slice (some ⟨g, 0, none⟩) (l.length + 1) cap') (l.length + 1) (flatS (l ++ [x])) ∧ W.grownBy w' v.ownBlock := by
  obtain ⟨i0, hi, hz0, hz1, hz2⟩ := info_str
  obtain ⟨v', w', h1, h2, h3, -⟩ := run_append_own (P := Tryz.prog) W B 29 ty 9 i0 _ 1 16 Tryz.underlying29 hi hz0 hz1 hz2 rfl (by omega) v l.length (flatS l) hR ad 1 1 [.string x] rfl had (fun u hu => by simp at hu; subst hu; rfl) (by unfold maxLen; omega) (by omega) hB
  have h2' : w'.ownsRow B 9 1 v' (l.length + 1) (flatS (l ++ [x])) := by
    have : flatS (l ++ [x]) = flatS l ++ [.string x] := by simp [flatS]
    rw [this]; exact h2
  obtain ⟨h4, ⟨rfl, h0⟩ | ⟨g, cap', cur, rfl, rest⟩⟩ := h2'
  · omega
  · exact ⟨g, cap', w', h1, ⟨h4, .inr ⟨g, cap', cur, rfl, rest⟩⟩, h3⟩
/-- A word is put behind the words: the run of the append, and what stands behind it. -/
theorem Wd.put (h : Wd w wr s B p bs l v) (x : ByteArray) (ty : TypeId) (hl : l.length + 1 ≤ p) (hs : s.size ≤ 8000000000000) :
    ∃ g cap' w', (Builtin.append_ #[29, 29] ty #[v, .slice (some ⟨wr.heap.size, 0, none⟩) 1 1]).run Tryz.prog (wr.alloc (.cells #[.string x] 9)) = .ok (.slice (some ⟨g, 0, none⟩) (l.length + 1) cap') w' ∧
      Wd w w' s B p bs (l ++ [x]) (.slice (some ⟨g, 0, none⟩) (l.length + 1) cap') := by
  have hsz := h.size
  have hp := h.ple
  have hlt := fun g hg => (h.row.lt g hg).2
  obtain ⟨g, cap', w', h1, h2, h3⟩ := app_str (B := B) (W := wr.alloc (.cells #[.string x] 9)) (by simp; omega) (rowS_at (w' := wr.alloc (.cells #[.string x] 9)) h.row (fun g hg => Below.heap_alloc _ _ _ (hlt g hg))) (by omega) ty x ⟨wr.heap.size, 0, none⟩ (World.news_of_block (alloc_at wr _))
  have hne : ∀ k o, wr.heap[k]? = some o → (∀ c fz, o ≠ Obj.cells c 9 fz) → w'.heap[k]? = some o := fun k o hk ho => by
    have hlk := lt_of_at hk
    rw [h3.block k (by simp; omega) (fun e => by obtain ⟨cur, fz, hh⟩ := rowS_kind h.row e.symm; rw [hh] at hk; exact ho _ _ (Option.some.inj hk).symm)]
    rw [Below.heap_alloc _ _ _ hlk]
    exact hk
  refine ⟨g, cap', w', h1, h.le, ?_, hne _ _ h.it (fun _ _ e => by cases e), hp, ?_, by rw [show (l ++ [x]).length = l.length + 1 by simp]; exact h2, h.small.1, by simp; omega⟩
  · exact (h.bel.alloc (by have := h.le; omega) _).grown h3 (by have := h.le; simp; omega) (fun k hk => Nat.le_trans h.le (h.row.lt k hk).1)
  · have hb := h.bd.alloc (.cells #[.string x] 9)
    have key : ∀ q, Lib.BuilderAtF 90 5 B B q (Lib.byteCells bs) (wr.alloc (.cells #[.string x] 9)) → Lib.BuilderAtF 90 5 B B q (Lib.byteCells bs) w' := by
      rintro q ⟨a1, u, a2, a3, a4⟩
      have hA : ∀ k cs t fz, (wr.alloc (.cells #[.string x] 9)).heap[k]? = some (Obj.cells cs t fz) → t ≠ 9 → w'.heap[k]? = (wr.alloc (.cells #[.string x] 9)).heap[k]? := fun k cs t fz hk ht => by
        refine h3.block k (lt_of_at hk) (fun e => ?_)
        obtain ⟨cur, fz', hh⟩ := rowS_kind h.row e.symm
        rw [Below.heap_alloc _ _ _ (lt_of_at hh), hh] at hk
        injection hk with e1; injection e1 with e2 e3 e4
        exact ht e3.symm
      refine ⟨a1, u, (hA _ _ _ _ a2 (by decide)).trans a2, ?_, a4⟩
      obtain ⟨b1, b2 | ⟨g', cp, cur, fz, b3, b4, b5, b6⟩⟩ := a3
      · exact ⟨b1, .inl b2⟩
      · exact ⟨b1, .inr ⟨g', cp, cur, fz, b3, b4, (hA _ _ _ _ b5 (by decide)).trans b5, b6⟩⟩
    rcases hb with hb | hb
    · exact .inl (key _ hb)
    · exact .inr (key _ hb)
end
end Go.Proofs.YtidcbcljeofooaaGreatDoor
