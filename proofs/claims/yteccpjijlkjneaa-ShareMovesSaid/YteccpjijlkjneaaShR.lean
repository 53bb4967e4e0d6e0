/- Chapter 15: rows of names in memory: Sort, Clone, Compact, BinarySearch, append. -/
import Derived.Test.YteccpjijlkjneaaShS
import Derived.Test.YteccpjijlkjneaaShP
import Derived.Test.YteccpjijlkjneaaFbV
import Derived.Sort.OwnSorted
import Derived.Deep.AppendLies
namespace Go.Proofs.Yteccpjijlkjneaa
open Go.RowKit Go.Sort Go.WideShapes
variable {b n cap : Nat} {w w' : World} {v : Value} {ks : List (List UInt8)}
abbrev rowK (ks : List (List UInt8)) : List Value := ks.map encStr
theorem enc_ky (s : ByteArray) : encStr (ky s) = .string s := rfl
theorem row_len (h : w.ownsRow b 9 1 v n (rowK ks)) : ks.length = n := by have := h.1; simpa using this
theorem row_slice {T : TypeId} {z : Nat} {xs : List Value} (h : w.ownsRow b T z v n xs) : ∃ A cap, v = .slice A n cap := by
  obtain ⟨-, ⟨rfl, h0⟩ | ⟨g, cap, cur, rfl, _⟩⟩ := h
  · exact ⟨none, 0, by rw [h0]⟩
  · exact ⟨_, cap, rfl⟩
theorem rowK_cells (h : w.ownsRow b 9 1 v n (rowK ks)) (h0 : 0 < n) : ∃ g cap, v = .slice (some ⟨g, 0, none⟩) n cap ∧ b ≤ g ∧ g < w.heap.size ∧ ∀ j (hj : j < ks.length), w.cell? ⟨g, j, none⟩ = some (.string ⟨ks[j].toArray⟩) := by
  have hl := row_len h
  obtain ⟨-, ⟨-, h4⟩ | ⟨g, cap, cur, rfl, hg, hh, hc, -, hs, ht⟩⟩ := h
  · omega
  · refine ⟨g, cap, rfl, hg, lt_of_at hh, fun j hj => ?_⟩
    rw [blk_cell hh]
    have h5 : (cur.toList.take (n * 1))[j]? = cur.toList[j]? := by rw [List.getElem?_take, if_pos (by omega)]
    rw [ht] at h5
    simp only [List.getElem?_map, List.getElem?_eq_getElem hj, Option.map_some] at h5
    rw [← Array.getElem?_toList, ← h5]
theorem sort_rowK (h : w.ownsRow b 9 1 v n (rowK ks)) (hn : n ≤ 1048576) : Calls Try.prog 18 #[v] w fun e w' => e = .returned (.tuple #[]) ∧ w'.ownsRow b 9 1 v n (rowK (sortK ks)) ∧ w.grownBy w' v.ownBlock := by
  have hl := row_len h
  rcases h.2 with ⟨rfl, hz⟩ | ⟨gb, cap2, cur, rfl, hbase, hgb, r1, r2, r3, r4⟩
  · subst hz
    obtain rfl : ks = [] := List.eq_nil_of_length_eq_zero hl
    refine (AnyM.slices_Sort_string_none Try.laysSlM6_f18 none 0 w).mono ?_
    rintro e w' ⟨rfl, rfl⟩
    exact ⟨rfl, by unfold sortK; rw [List.mergeSort_nil]; exact World.ownsRow_nil _ _ _ _, World.grownBy.refl _ _⟩
  · have hH : Holds encStr w gb 0 ks.toArray := holds_of_block hgb (by rw [hl]; simpa using r4)
    have hgl : gb < w.heap.size := lt_of_at hgb
    have cS := AnyM.slices_Sort_string Try.laysSlM6_f18 gb 0 cap2 ks w hH hgl (by omega)
    rw [hl] at cS
    refine cS.mono ?_
    rintro e w' ⟨rfl, nn, os, rfl⟩
    have h9 := ownsRow_sorted (w := w) (base := b) (g := gb) (cap := cap2) (n := nn) (e := 9) (os := os) (cur := cur) (ss := ks) (ts := sortK ks) (List.length_mergeSort _) hbase hgb (by omega) r2 r3
    rw [hl] at h9
    exact ⟨rfl, h9, grownBy_sorted _⟩
theorem clone_rowK (h : w.ownsRow b 9 1 v n (rowK ks)) (hn : n ≤ 1048576) : Calls Try.prog 20 #[v] w fun e w' => ∃ v', e = .returned v' ∧ w'.ownsRow w.heap.size 9 1 v' n (rowK ks) ∧ Below w.heap.size w w' := by
  have hl := row_len h
  by_cases h0 : n = 0
  · subst h0
    obtain rfl : ks = [] := List.eq_nil_of_length_eq_zero hl
    obtain ⟨A, c, rfl⟩ := row_slice h
    cases A with
    | none =>
      refine (Any.slices_Clone_string_nil Try.laysNm216 0 c w).mono ?_
      rintro e w' ⟨rfl, rfl⟩
      exact ⟨_, rfl, World.ownsRow_nil _ _ _ _, Below.refl _ _⟩
    | some a =>
      refine (Any.slices_Clone_string_zero Try.laysNm216 a c w).mono ?_
      rintro e w' ⟨v', rfl, h2, -, h3⟩
      exact ⟨v', rfl, h2, h3⟩
  · obtain ⟨g, c, rfl, -, -, hc⟩ := rowK_cells h (by omega)
    have cS := Any.slices_Clone_string Try.laysNm216 g 0 n c (ks.map fun k => (⟨k.toArray⟩ : ByteArray)) w (by simp; omega) (by omega) (fun j hj => by
      have hj2 : j < ks.length := by simpa using hj
      rw [Nat.zero_add, hc j hj2]; simp [hj2])
    refine cS.mono ?_
    rintro e w' ⟨v', rfl, h2, -, h3⟩
    rw [List.take_of_length_le (by simp; omega), List.map_map] at h2
    exact ⟨v', rfl, h2, h3⟩
theorem compact_rowK (h : w.ownsRow b 9 1 v n (rowK ks)) (hn : n ≤ 1048576) : Calls Try.prog 19 #[v] w fun e w' => (∃ A c, e = .returned (.slice A (Go.Lib.compact ks).length c)) ∧ w.grownBy w' v.ownBlock := by
  have hl := row_len h
  rcases h.2 with ⟨rfl, hz⟩ | ⟨gb, cap2, cur, rfl, hbase, hgb, r1, r2, r3, r4⟩
  · subst hz
    obtain rfl : ks = [] := List.eq_nil_of_length_eq_zero hl
    refine (Any.slices_Compact_string_empty Try.lays194 none 0 w).mono ?_
    rintro e w' ⟨rfl, rfl⟩
    exact ⟨⟨_, _, rfl⟩, World.grownBy.refl _ _⟩
  · have hH : Holds encStr w gb 0 ks.toArray := holds_of_block hgb (by rw [hl]; simpa using r4)
    have cS := Any.slices_Compact_string Try.lays194 gb 0 cap2 ks w hH (by omega) (by omega)
    rw [hl] at cS
    refine cS.mono ?_
    rintro e w' ⟨rfl, nn, rfl⟩
    have h8 := grownBy_sorted (w := w) (g := gb) (n := nn) (os := #[]) (Go.Lib.compact ks ++ List.replicate (n - (Go.Lib.compact ks).length) []).toArray
    refine ⟨⟨_, _, rfl⟩, ?_⟩
    rw [← grow_empty (putRow encStr _ _ _ _)]
    exact h8
theorem search_rowK (h : w.ownsRow b 9 1 v n (rowK ks)) (hn : n ≤ 1048576) (hs : ks.Pairwise (fun x y => x < y)) (x : ByteArray) {k : Nat} (hk : k < ks.length) (hx : ks[k] = ky x) :
    Calls Try.prog 22 #[v, .string x] w fun e w' => e = .returned (.tuple #[.int .i64 (k : Nat), .bool true]) ∧ Below w.heap.size w w' := by
  have hl := row_len h
  obtain ⟨g, c, rfl, -, -, hc⟩ := rowK_cells h (by omega)
  have cS := Any2.slices_BinarySearch_string Try.laysNm226 g 0 n c (fun t => if h : t < ks.length then ⟨ks[t].toArray⟩ else x) x w (by omega) (fun j hj => by
    have hj2 : j < ks.length := by omega
    rw [Nat.zero_add, hc j hj2]; simp [hj2])
  have hb : Go.Lib.bsGo (fun t => Op.bytesLess (if h : t < ks.length then (⟨ks[t].toArray⟩ : ByteArray) else x).toList x.toList) n 0 n = k := by
    refine Go.Lib.bsGo_spec _ k (fun t ht => ?_) (fun t ht => ?_) n 0 n (by omega) (Nat.zero_le _) (by omega)
    · have ht2 : t < ks.length := by omega
      simp only [dif_pos ht2]
      rw [bytesLess_eq]
      simp only [Go.Lib.toList_data, decide_eq_true_eq]
      have := List.pairwise_iff_getElem.1 hs t k ht2 hk ht
      rw [hx] at this
      exact this
    · by_cases ht2 : t < ks.length
      · simp only [dif_pos ht2]
        rw [bytesLess_eq]
        simp only [Go.Lib.toList_data, decide_eq_false_iff_not]
        intro q
        have q2 : ks[t] < ky x := q
        rcases Nat.lt_or_eq_of_le ht with z | z
        · have := List.pairwise_iff_getElem.1 hs k t hk ht2 z
          rw [hx] at this
          exact List.lt_irrefl _ (List.lt_trans this q2)
        · subst z
          rw [hx] at q2
          exact List.lt_irrefl _ q2
      · simp only [dif_neg ht2]
        rw [bytesLess_eq]
        simp only [Go.Lib.toList_data, decide_eq_false_iff_not]
        exact List.lt_irrefl _
  rw [hb] at cS
  refine cS.mono ?_
  rintro e w' ⟨rfl, q, rfl⟩
  refine ⟨?_, below_drewN (Below.refl _ _) q⟩
  have e2 : decide (k < n ∧ (if h : k < ks.length then (⟨ks[k].toArray⟩ : ByteArray) else x) = x) = true := by
    refine decide_eq_true ⟨by omega, ?_⟩
    rw [dif_pos hk]
    exact ky_inj (by show ks[k] = _; exact hx)
  rw [e2]
theorem infoS : (Try.prog.info? 9).map (fun i => (i.size, i.bytes)) = some (1, 16) ∧ ((Try.prog.info? 9).bind (·.zero)).map (fun z => z.cells.size) = some 1 := by
  constructor <;> kernel_rfl
theorem infoS2 : ∃ i z, Try.prog.info? 9 = some i ∧ i.zero = some z ∧ i.size = 1 ∧ i.bytes = 16 ∧ z.cells.size = 1 := by
  obtain ⟨h1, h2⟩ := infoS
  cases e : Try.prog.info? 9 with
  | none => rw [e] at h1; cases h1
  | some i =>
    rw [e] at h1 h2
    simp only [Option.map_some, Option.bind_some] at h1 h2
    injection h1 with h1
    injection h1 with h3 h4
    cases ez : i.zero with
    | none => rw [ez] at h2; cases h2
    | some z =>
      rw [ez] at h2
      simp only [Option.map_some] at h2
      injection h2 with h2
      exact ⟨i, z, rfl, ez, h3, h4, h2⟩
/-- One name is put behind. -/
theorem app_rowK {A : Option Addr} (ho : w.ownsRow b 9 1 (.slice A n cap) n (rowK ks)) (hn : n ≤ 100000) (hb : b ≤ w.heap.size) (s : ByteArray) :
    ∃ A' cap' w', (Builtin.append_ #[26, 26] 26 #[.slice A n cap, .slice (some ⟨w.heap.size, 0, none⟩) 1 1]).run Try.prog (w.alloc (.cells #[.string s] 9)) = .ok (.slice A' (n + 1) cap') w' ∧
      w'.ownsRow b 9 1 (.slice A' (n + 1) cap') (n + 1) (rowK (ks ++ [ky s])) ∧ Below b w w' ∧ Tur (fun k => (Value.slice A n cap).ownBlock = some k) w w' := by
  obtain ⟨i0, z0, hi, hz0, hz1, hz2, hz3⟩ := infoS2
  have hb0 : Below w.heap.size w (w.alloc (.cells #[.string s] 9)) := (by repeat (first | with_reducible assumption | with_reducible exact Below.refl _ _ | with_reducible refine Below.drew ?_ | with_reducible refine below_drewN ?_ _ | with_reducible refine below_alloc ?_ _ | with_reducible refine Below.alloc ?_ (by first | omega | (simp; done) | (simp; omega)) _ | with_reducible refine Below.setCell ?_ (by first | omega | (simp; done) | (simp; omega)) _ | with_reducible refine below_setRow ?_ (by first | omega | (simp; done) | (simp; omega)) _))
  have ha : (w.alloc (.cells #[.string s] 9)).heap[w.heap.size]? = some (.cells #[.string s] 9 (0, 0)) := alloc_at w _
  have ho2 : (w.alloc (.cells #[.string s] 9)).ownsRow b 9 1 (.slice A n cap) n (rowK ks) := row_at ho hb0
  obtain ⟨g, cap', w', happ, hown, hG, hat, hgl⟩ := run_append_lies (P := Try.prog) (w := w.alloc (.cells #[.string s] 9)) 26 26 b 9 i0 z0 1 16 Try.underlying26 hi hz0 hz1 hz2 hz3 (by omega)
    (.slice A n cap) n (rowK ks) ho2 ⟨w.heap.size, 0, none⟩ 1 1 [.string s] rfl (fun j u hu => by
      have hj : j = 0 := by
        have := (List.getElem?_eq_some_iff.1 hu).1
        simpa using this
      subst hj
      obtain rfl : Value.string s = u := by simpa using hu
      exact (blk_cell ha _).trans rfl) (fun u hu => by rw [List.mem_singleton] at hu; subst hu; rfl) (by omega) (by unfold maxLen; omega) (by omega) (Nat.le_trans hb hb0.size) _ rfl
  have t : Tur (fun k => (Value.slice A n cap).ownBlock = some k) w w' := (Tur.of_below hb0).then (Tur.of_grown hG (fun g hg => .inl hg))
  refine ⟨_, cap', w', happ, ?_, t.below hb (fun k hk => (ho.lt k hk).1), t⟩
  rw [rowK, List.map_append]
  exact hown
end Go.Proofs.Yteccpjijlkjneaa
