/- The reference's clock of chapter 10 in memory: a row of alarms that may begin anywhere in its array; append, stores, parts. -/
import Derived.Test.YtacffoobeebleaaWTimR
import Derived.Deep.AppendSrc
import Derived.Deep.Upon
import Derived.Laws.IdiomCopy
namespace Go.Proofs.Ytacffoobeebleaa
open Go.RowKit
/-- The row v of the reference's alarms l, all of it behind place B. -/
def RowO (B : Nat) (w : World) (v : Value) (l : List Al) : Prop := (v = .slice none 0 0 ∧ l = []) ∨
  ∃ g o cap cur, v = .slice (some ⟨g, o, none⟩) l.length cap ∧ B ≤ g ∧ w.heap[g]? = some (.cells cur 36 (0, 0)) ∧ o + cap * 2 ≤ cur.size ∧ l.length ≤ cap ∧ cap ≤ maxLen ∧ ∀ j u, (flatT l)[j]? = some u → cur[o + j]? = some u
theorem RowO.at {B : Nat} {w w' : World} {v : Value} {l : List Al} (h : RowO B w v l) (e : ∀ g, v.ownBlock = some g → w'.heap[g]? = w.heap[g]?) : RowO B w' v l := by
  rcases h with h | ⟨g, o, cap, cur, rfl, h1, h2, rest⟩
  · exact .inl h
  · exact .inr ⟨g, o, cap, cur, rfl, h1, (e g rfl).trans h2, rest⟩
theorem RowO.lt {B : Nat} {w : World} {v : Value} {l : List Al} (h : RowO B w v l) : ∀ g, v.ownBlock = some g → B ≤ g ∧ g < w.heap.size := by
  rcases h with ⟨rfl, -⟩ | ⟨g, o, cap, cur, rfl, h1, h2, -⟩
  · intro g e; cases e
  · intro g' e; cases e; exact ⟨h1, lt_of_at h2⟩
theorem RowO.slice {B : Nat} {w : World} {v : Value} {l : List Al} (h : RowO B w v l) : ∃ A cap, v = .slice A l.length cap := by
  rcases h with ⟨rfl, rfl⟩ | ⟨g, o, cap, cur, rfl, -⟩
  · exact ⟨none, 0, rfl⟩
  · exact ⟨_, _, rfl⟩
theorem RowO.cells {B : Nat} {w : World} {v : Value} {l : List Al} (h : RowO B w v l) (hn : 0 < l.length) :
    ∃ g o cap, v = .slice (some ⟨g, o, none⟩) l.length cap ∧ l.length ≤ cap ∧ B ≤ g ∧ g < w.heap.size ∧ (∀ i, w.frozen? ⟨g, i, none⟩ = false) ∧ ∀ j, j < l.length → w.cell? ⟨g, o + j * 2, none⟩ = some (.string (el l j).1) ∧ w.cell? ⟨g, o + j * 2 + 1, none⟩ = some (.int .i64 (el l j).2) := by
  rcases h with ⟨rfl, rfl⟩ | ⟨g, o, cap, cur, rfl, h1, h2, h3, h4, h5, h6⟩
  · simp at hn
  · refine ⟨g, o, cap, rfl, h4, h1, lt_of_at h2, blk_free h2, fun j hj => ⟨?_, ?_⟩⟩
    · rw [blk_cell h2]
      have := flatT_at l j hj 0 (by omega)
      exact h6 (j * 2) _ (by simpa [cellsT] using this)
    · rw [blk_cell h2, Nat.add_assoc]
      have := flatT_at l j hj 1 (by omega)
      exact h6 (j * 2 + 1) _ (by simpa [cellsT] using this)
theorem setCells_heap (b : Nat) : ∀ (vs : List Value) (o : Nat) (w : World) (cur : Array Value) (t : TypeId), w.heap[b]? = some (.cells cur t (0, 0)) → ∃ cur', (w.setCells b o vs).heap[b]? = some (.cells cur' t (0, 0)) ∧ cur'.size = cur.size
  | [], _, _, cur, _, h => ⟨cur, h, rfl⟩
  | v :: r, o, w, cur, t, h => by
    obtain ⟨cur', h1, h2⟩ := setCells_heap b r (o + 1) (w.setCell ⟨b, o, none⟩ v) _ t (heap_setCell_same _ _ _ _ _ _ h)
    exact ⟨cur', h1, by rw [h2]; simp⟩
theorem setCells_grown (b : Nat) : ∀ (vs : List Value) (o : Nat) (w : World), w.grownBy (w.setCells b o vs) (some b)
  | [], _, _ => ⟨rfl, rfl, rfl, Nat.le_refl _, fun _ _ _ => rfl⟩
  | v :: r, o, w => by
    have h := setCells_grown b r (o + 1) (w.setCell ⟨b, o, none⟩ v)
    exact ⟨h.os, h.tape, h.output, by have := h.size; simpa [World.setCells] using this, fun k hk hn => (h.block k (by simpa using hk) hn).trans (heap_setCell_other w ⟨b, o, none⟩ k v (fun e => hn (by rw [e])))⟩
theorem infoAr : (Try.prog.info? 36).map (fun i => (i.zero, i.size, i.bytes)) = some (some (.agg #[.string ByteArray.empty, .int .i64 0]), 2, 24) := by kernel_rfl
theorem info_ar : ∃ i, Try.prog.info? 36 = some i ∧ i.zero = some (.agg #[.string ByteArray.empty, .int .i64 0]) ∧ i.size = 2 ∧ i.bytes = 24 := by
  have h := infoAr
  cases hi : Try.prog.info? 36 with
  | none => rw [hi] at h; cases h
  | some i =>
    rw [hi] at h
    simp only [Option.map_some, Option.some.injEq, Prod.mk.injEq] at h
    exact ⟨i, rfl, h.1, h.2.1, h.2.2⟩
/-- Some alarms that lie somewhere are appended. -/
theorem app_o {B : Nat} {W : World} {v : Value} {l l' : List Al} {c : Nat} (hB : B ≤ W.heap.size) (h : RowO B W v l) (hm : l.length + l'.length ≤ 100000) (ty : TypeId) (ad : Addr) (had : ∀ j u, (flatT l')[j]? = some u → W.cell? (ad.add j) = some u) :
    ∃ v' w', (Builtin.append_ #[44, 44] ty #[v, .slice (some ad) l'.length c]).run Try.prog W = .ok v' w' ∧ RowO B w' v' (l ++ l') ∧ W.grownBy w' v.ownBlock ∧ (v'.ownBlock = v.ownBlock ∨ v'.ownBlock = some W.heap.size) := by
  obtain ⟨i0, hi, hz0, hz1, hz2⟩ := info_ar
  have hs : Src Try.prog i0.size 44 (.slice (some ad) l'.length c) l'.length (flatT l') W := Src.ofSlice W Try.underlying44 ad l'.length c (flatT l') (by rw [hz1]; exact flatT_length l') had (flatT_one l')
  have grow : ∀ (bs : Option Addr) (sc : Nat), sc < l.length + l'.length → (Builtin.firstCells i0.size l.length (.slice bs l.length sc)).run Try.prog W.drew = .ok (flatT l).toArray W.drew →
      ∃ v' w', (Builtin.append_ #[44, 44] ty #[.slice bs l.length sc, .slice (some ad) l'.length c]).run Try.prog W = .ok v' w' ∧ RowO B w' v' (l ++ l') ∧ W.grownBy w' (Value.slice bs l.length sc).ownBlock ∧ (v'.ownBlock = (Value.slice bs l.length sc).ownBlock ∨ v'.ownBlock = some W.heap.size) := by
    intro bs sc hg hold
    have hrun := run_append_grow_src (P := Try.prog) W 44 44 ty 36 i0 _ Try.underlying44 hi hz0 bs l.length sc (flatT l) hold _ l'.length (flatT l') hs hg (by omega) (growslice_fits hg (by rw [hz2]; omega))
    have hge := grownCap_ge W (l.length + l'.length) sc 36
    have hcm := grownCap_le_maxLen W (l.length + l'.length) sc 36 (by unfold maxLen; omega)
    refine ⟨_, _, hrun, .inr ⟨W.heap.size, 0, _, _, by rw [List.length_append], hB, alloc_at W.drew _, ?_, by rw [List.length_append]; exact hge, hcm, fun j u hj => ?_⟩, ⟨rfl, rfl, rfl, by simp, fun k hk _ => Below.heap_alloc W.drew _ k hk⟩, .inr rfl⟩
    · simp only [Array.size_append, List.size_toArray, List.length_append, flatT_length, size_zeroCells]
      have : (Value.agg #[.string ByteArray.empty, .int .i64 0]).cells.size = 2 := rfl
      rw [this]
      omega
    · rw [flatT_append] at hj
      have hj2 : j < (flatT l ++ flatT l').length := (List.getElem?_eq_some_iff.1 hj).1
      rw [Nat.zero_add, Array.getElem?_append_left (by simpa using hj2)]
      simpa using hj
  rcases h with ⟨rfl, rfl⟩ | ⟨g, o, cap, cur, rfl, h1, h2, h3, h4, h5, h6⟩
  · by_cases h0 : l'.length = 0
    · obtain rfl : l' = [] := List.length_eq_zero_iff.1 h0
      exact ⟨_, _, run_append_nothing W 44 44 ty 36 i0 Try.underlying44 hi none 0 0 (Nat.le_refl _) _ hs, .inl ⟨rfl, rfl⟩, ⟨rfl, rfl, rfl, Nat.le_refl _, fun _ _ _ => rfl⟩, .inl rfl⟩
    · exact grow none 0 (by simp; omega) (run_firstCells_none W.drew i0.size 0 0 0)
  · by_cases hroom : l.length + l'.length ≤ cap
    · have hin : ∀ j, j < (flatT l').length → (W.cell? ⟨g, o + l.length * i0.size + j, none⟩).isSome = true := fun j hj => by
        rw [flatT_length] at hj
        rw [hz1, blk_cell h2]
        have : o + l.length * 2 + j < cur.size := by omega
        simp [this]
      have hrun := run_append_room_src (P := Try.prog) W 44 44 ty 36 i0 Try.underlying44 hi g o l.length cap _ l'.length (flatT l') hs hroom hin (fun j _ => blk_free h2 _)
      obtain ⟨cur', q1, q2⟩ := setCells_heap g (flatT l') (o + l.length * i0.size) W cur _ h2
      refine ⟨_, _, hrun, .inr ⟨g, o, cap, cur', by rw [List.length_append], h1, q1, by omega, by rw [List.length_append]; exact hroom, h5, fun j u hj => ?_⟩, setCells_grown g _ _ W, .inl rfl⟩
      rw [← blk_cell q1]
      rw [flatT_append] at hj
      rcases Nat.lt_or_ge j (flatT l).length with hj1 | hj1
      · rw [List.getElem?_append_left hj1] at hj
        rw [World.cell?_setCells_out g _ _ W _ (fun _ _ => .inl (by rw [flatT_length] at hj1; rw [hz1]; show o + j < o + l.length * 2; omega)), blk_cell h2]
        exact h6 j u hj
      · rw [List.getElem?_append_right hj1] at hj
        obtain ⟨hj2, hj3⟩ := List.getElem?_eq_some_iff.1 hj
        have := World.cell?_setCells_in g (flatT l') (o + l.length * i0.size) W hin (j - (flatT l).length) hj2
        rw [hj3, hz1, show o + l.length * 2 + (j - (flatT l).length) = o + j by rw [flatT_length] at hj1 ⊢; omega] at this
        rw [hz1]
        exact this
    · refine grow _ cap (by omega) (run_firstCells_some W.drew i0.size l.length ⟨g, o, none⟩ l.length cap (flatT l) (by rw [hz1]; exact flatT_length l) (fun j u hj => ?_))
      rw [addr_add]
      show W.cell? ⟨g, o + j, none⟩ = some u
      rw [blk_cell h2]
      exact h6 j u hj
/-- An alarm is stored whole into its place. -/
theorem RowO.put {B : Nat} {w : World} {g o n cap j : Nat} {l : List Al} (h : RowO B w (.slice (some ⟨g, o, none⟩) n cap) l) (hj : j < l.length) (x : Al) :
    RowO B ((w.setCell ⟨g, o + j * 2, none⟩ (.string x.1)).setCell ⟨g, o + j * 2 + 1, none⟩ (.int .i64 x.2)) (.slice (some ⟨g, o, none⟩) n cap) (l.set j x) := by
  rcases h with ⟨h, -⟩ | ⟨g', o', cap', cur, h0, h1, h2, h3, h4, h5, h6⟩
  · cases h
  · cases h0
    have q1 := heap_setCell_same _ _ (o + j * 2 + 1) _ _ (.int .i64 x.2) (heap_setCell_same _ _ (o + j * 2) _ _ (.string x.1) h2)
    refine .inr ⟨g, o, cap, _, by rw [List.length_set], h1, q1, by simpa using h3, by rw [List.length_set]; exact h4, h5, fun k u hk => ?_⟩
    rw [← flatT_set l x j hj] at hk
    have hsz : (flatT l).length = l.length * 2 := flatT_length l
    by_cases e1 : k = j * 2 + 1
    · subst e1
      rw [List.getElem?_set_self (by simp; omega)] at hk
      rw [Array.getElem?_setIfInBounds]
      simp only [← Nat.add_assoc, if_true]
      rw [if_pos (by simp; omega)]
      exact hk
    · rw [List.getElem?_set_ne (Ne.symm e1)] at hk
      rw [Array.getElem?_setIfInBounds, if_neg (by omega)]
      by_cases e2 : k = j * 2
      · subst e2
        rw [List.getElem?_set_self (by omega)] at hk
        rw [Array.getElem?_setIfInBounds]
        simp only [if_true]
        rw [if_pos (by omega)]
        exact hk
      · rw [List.getElem?_set_ne (Ne.symm e2)] at hk
        rw [Array.getElem?_setIfInBounds, if_neg (by omega)]
        exact h6 k u hk
/-- A stretch of the row's cells, as a source. -/
theorem RowO.part {B : Nat} {w : World} {g o n cap : Nat} {l : List Al} (h : RowO B w (.slice (some ⟨g, o, none⟩) n cap) l) (i m : Nat) (him : i + m ≤ l.length) : ∀ j u, (flatT ((l.drop i).take m))[j]? = some u → w.cell? ((⟨g, o + i * 2, none⟩ : Addr).add j) = some u := by
  rcases h with ⟨h, -⟩ | ⟨g', o', cap', cur, h0, h1, h2, h3, h4, h5, h6⟩
  · cases h
  · cases h0
    intro j u hj
    rw [addr_add, blk_cell h2]
    have hj1 : j < ((l.drop i).take m).length * 2 := by rw [← flatT_length]; exact (List.getElem?_eq_some_iff.1 hj).1
    have hlen : ((l.drop i).take m).length = m := by simp; omega
    rw [hlen] at hj1
    have hd : (flatT l)[i * 2 + j]? = some u := by
      have h7 : flatT l = flatT (l.take i) ++ flatT (l.drop i) := by rw [← flatT_append, List.take_append_drop]
      rw [h7, List.getElem?_append_right (by rw [flatT_length]; simp; omega)]
      have h8 : (flatT (l.take i)).length = i * 2 := by rw [flatT_length]; simp; omega
      rw [h8, show i * 2 + j - i * 2 = j by omega]
      rw [← flatT_take, List.getElem?_take] at hj
      rw [if_pos hj1] at hj
      exact hj
    have := h6 (i * 2 + j) u hd
    rw [← Nat.add_assoc] at this
    exact this
end Go.Proofs.Ytacffoobeebleaa
