/- Chapter 12's reference graph: Add, what its walk needs. -/
import Derived.Test.YtolfioiccmmifaaDrD
namespace Go.Proofs.Ytolfioiccmmifaa
open Go.RowKit
variable {B H g cap : Nat} {w w' wr : World} {P P' : Nat → Value} {G G' : Gr} {J J' : List Nat} {v v' : Value}
def allOk (id : Int) (l : List Int) : Prop := okId id ∧ ∀ z ∈ l, okId z
instance (id : Int) (l : List Int) : Decidable (allOk id l) := by unfold allOk; infer_instance
/-- The parents as far as they are gathered. -/
structure Gath (w wr : World) (id : Int) (zs : List Int) (i : Nat) (r : Bool) (M : List Int) (v : Value) : Prop where
  re : r = decide (allOk id (zs.take i))
  row : wr.ownsRow w.heap.size 2 1 v M.length (rowZ M)
  rise : M.Pairwise (· < ·)
  len : M.length ≤ 100
  mem : r = true → ∀ y, y ∈ M ↔ y ∈ zs.take i
  bel : Below w.heap.size w wr
theorem Gath.start (w : World) (id : Int) (zs : List Int) : Gath w w id zs 0 (decide (okId id)) [] (.slice none 0 0) :=
  ⟨by rw [List.take_zero, decide_eq_decide]; unfold allOk; simp, World.ownsRow_nil _ _ _ _, List.Pairwise.nil, Nat.zero_le _, fun _ y => by rw [List.take_zero], Below.refl _ _⟩
theorem take_nextZ {i : Nat} {x : Int} {l : List Int} (h : l[i]? = some x) : l.take (i + 1) = l.take i ++ [x] := by
  rw [List.take_add_one, h]; rfl
theorem gath_r {id z : Int} {zs : List Int} {i : Nat} (hz : zs[i]? = some z) : (decide (allOk id (zs.take i)) && decide (okId z)) = decide (allOk id (zs.take (i + 1))) := by
  rw [← Bool.decide_and, decide_eq_decide, take_nextZ hz]
  constructor
  · rintro ⟨⟨h1, h2⟩, h3⟩
    refine ⟨h1, fun y hy => ?_⟩
    rw [List.mem_append, List.mem_singleton] at hy
    rcases hy with hy | rfl
    · exact h2 y hy
    · exact h3
  · rintro ⟨h1, h2⟩
    exact ⟨⟨h1, fun y hy => h2 y (by simp [hy])⟩, h2 z (by simp)⟩
theorem Gath.put {id z : Int} {zs M : List Int} {i : Nat} {r : Bool} (h : Gath w wr id zs i r M v) (hz : zs[i]? = some z) (hM : M.length < 100) (hp : PutP w.heap.size wr M z v' w') : ∃ M', Gath w w' id zs (i + 1) (r && decide (okId z)) M' v' := by
  obtain ⟨M', h1, h2, h3, h4, h5⟩ := hp
  refine ⟨M', by rw [h.re]; exact gath_r hz, h1, h2, by omega, fun hr y => ?_, h.bel.trans h5⟩
  rw [Bool.and_eq_true] at hr
  rw [h3, h.mem hr.1, take_nextZ hz, List.mem_append, List.mem_singleton]
theorem Gath.full {id z : Int} {zs M : List Int} {i : Nat} {r : Bool} (h : Gath w wr id zs i r M v) (hz : zs[i]? = some z) (hM : ¬ M.length < 100) : Gath w wr id zs (i + 1) (r && decide (okId z)) M v := by
  refine ⟨by rw [h.re]; exact gath_r hz, h.row, h.rise, h.len, fun hr y => ?_, h.bel⟩
  rw [Bool.and_eq_true, decide_eq_true_eq] at hr
  obtain ⟨hr1, hr2⟩ := hr
  have hmem := h.mem hr1
  have hrr := h.re
  rw [hr1] at hrr
  have hall := (of_decide_eq_true hrr.symm).2
  rw [hmem y, take_nextZ hz, List.mem_append, List.mem_singleton]
  refine ⟨.inl, fun q => ?_⟩
  rcases q with q | rfl
  · exact q
  · rw [← hmem y]
    by_cases q : y ∈ M
    · exact q
    · exfalso
      have hM1 : ∀ z ∈ M, 1 ≤ z ∧ z ≤ 100 := fun z hz => hall z ((hmem z).1 hz)
      have hn : ((y :: M).map Int.toNat).Nodup := by
        rw [List.map_cons, List.nodup_cons]
        constructor
        · intro q2
          obtain ⟨z, hz1, hz2⟩ := List.mem_map.1 q2
          have h3 := hM1 z hz1
          have : z = y := by have := hr2.1; omega
          exact q (this ▸ hz1)
        · refine List.pairwise_map.2 (h.rise.imp_of_mem fun {a b} ha hb hab => ?_)
          have h3 := hM1 a ha
          have h4 := hM1 b hb
          omega
      have := len100 hn (fun x hx => by
        obtain ⟨z, hz1, rfl⟩ := List.mem_map.1 hx
        rw [List.mem_cons] at hz1
        rcases hz1 with rfl | hz1
        · have := hr2.1; have := hr2.2; omega
        · have := hM1 z hz1; omega)
      rw [List.length_map, List.length_cons] at this
      omega
/-- All are gathered, and all are right. -/
theorem Gath.all {id : Int} {zs M : List Int} {i : Nat} (h : Gath w wr id zs i true M v) (hi : zs.length ≤ i) : (okId id ∧ ∀ z ∈ zs, okId z) ∧ M = toZ (dd zs) := by
  have hrr := of_decide_eq_true h.re.symm
  have hm := h.mem rfl
  rw [List.take_of_length_le hi] at hrr hm
  refine ⟨hrr, risingZ_eq h.rise (toZ_rise (pick_sorted _)) fun x => ?_⟩
  rw [hm, toZ_mem]
  constructor
  · intro hx
    have := hrr.2 x hx
    refine ⟨x.toNat, dd_mem.2 ⟨by have := this.2; omega, ?_⟩, by have := this.1; omega⟩
    rw [show ((x.toNat : Nat) : Int) = x by have := this.1; omega]
    exact hx
  · rintro ⟨y, hy, rfl⟩
    exact (dd_mem.1 hy).2
theorem Gath.none {id : Int} {zs M : List Int} {i : Nat} (h : Gath w wr id zs i false M v) (hi : zs.length ≤ i) : ¬ (okId id ∧ ∀ z ∈ zs, okId z) := by
  have := of_decide_eq_false h.re.symm
  rw [List.take_of_length_le hi] at this
  exact this
/-- A list of jobs in which place k is free to be written. -/
def gapN (zs : List Nat) (k : Nat) (u : Nat) : List Nat := zs.take k ++ u :: zs.drop k
theorem gapN_len {zs : List Nat} {k u : Nat} (hk : k ≤ zs.length) : (gapN zs k u).length = zs.length + 1 := by
  unfold gapN; simp; omega
theorem gapN_all (zs : List Nat) (u : Nat) : gapN zs zs.length u = zs ++ [u] := by unfold gapN; simp
theorem gapN_lo {zs : List Nat} {k j u : Nat} (hk : k ≤ zs.length) (hj : j < k) : (gapN zs k u)[j]? = zs[j]? := by
  unfold gapN
  rw [List.getElem?_append_left (by simp; omega), List.getElem?_take_of_lt hj]
theorem gapN_at {zs : List Nat} {k u : Nat} (hk : k ≤ zs.length) : (gapN zs k u)[k]? = some u := by
  unfold gapN
  rw [List.getElem?_append_right (by simp; omega), show k - (zs.take k).length = 0 by simp; omega]
  rfl
theorem gapN_set {zs : List Nat} {k u z : Nat} (hk : k ≤ zs.length) : (gapN zs k u).set k z = gapN zs k z := by
  unfold gapN
  rw [List.set_append_right _ _ (by simp; omega)]
  congr 1
  rw [show k - (zs.take k).length = 0 by simp; omega]
  rfl
theorem gapN_next {zs : List Nat} {k z : Nat} (hz : zs[k]? = some z) : gapN zs (k + 1) z = gapN zs k z := by
  obtain ⟨hk, e⟩ := getq hz
  unfold gapN
  rw [take_next hz, List.drop_eq_getElem_cons hk, e]
  simp
theorem gapN_mem {zs : List Nat} {k x z : Nat} : z ∈ gapN zs k x ↔ z ∈ zs ∨ z = x := by
  unfold gapN
  rw [List.mem_append, List.mem_cons]
  have : z ∈ zs ↔ z ∈ zs.take k ∨ z ∈ zs.drop k := by rw [← List.mem_append, List.take_append_drop]
  rw [this]
  constructor
  · rintro (h | h | h)
    · exact .inl (.inl h)
    · exact .inr h
    · exact .inl (.inr h)
  · rintro ((h | h) | h)
    · exact .inl h
    · exact .inr (.inr h)
    · exact .inr (.inl h)
theorem gapN_rise {zs : List Nat} {k x : Nat} (hs : zs.Pairwise (· < ·)) (hk : k ≤ zs.length) (hlo : k = 0 ∨ ∃ z, zs[k - 1]? = some z ∧ z < x) (hhi : ∀ z ∈ zs.drop k, x < z) : (gapN zs k x).Pairwise (· < ·) := by
  have hz : ∀ z ∈ zs.take k, z < x := fun z hz => by
    obtain ⟨i, hi, rfl⟩ := List.mem_iff_getElem.1 hz
    rw [List.length_take] at hi
    rw [List.getElem_take]
    rcases hlo with q | ⟨y, q, hy⟩
    · omega
    · obtain ⟨q1, q2⟩ := getq q
      by_cases e : i = k - 1
      · subst e; rw [q2]; exact hy
      · have := List.pairwise_iff_getElem.1 hs i (k - 1) (by omega) (by omega) (by omega)
        omega
  unfold gapN
  rw [List.pairwise_append]
  refine ⟨hs.sublist (List.take_sublist _ _), List.pairwise_cons.2 ⟨hhi, hs.sublist (List.drop_sublist _ _)⟩, fun a ha c hc => ?_⟩
  rw [List.mem_cons] at hc
  rcases hc with rfl | hc
  · exact hz a ha
  · have h1 := hz a ha; have h2 := hhi c hc; omega
/-- The jobs that are there. -/
noncomputable def Gr.jobs (G : Gr) : List Nat := pick (fun x => G.st x ≠ 0)
theorem jobs_mem (ok : G.Ok) (x : Nat) : x ∈ G.jobs ↔ G.st x ≠ 0 := by
  unfold Gr.jobs
  rw [pick_mem]
  exact ⟨fun h => h.2, fun h => ⟨(ok.rng x h).2, h⟩⟩
theorem jobs_rise (G : Gr) : G.jobs.Pairwise (· < ·) := pick_sorted _
theorem jobs_len (ok : G.Ok) : G.jobs.length ≤ 100 := len100 (nodup_of_lt (jobs_rise G)) fun x hx => ok.rng x ((jobs_mem ok x).1 hx)
end Go.Proofs.Ytolfioiccmmifaa
