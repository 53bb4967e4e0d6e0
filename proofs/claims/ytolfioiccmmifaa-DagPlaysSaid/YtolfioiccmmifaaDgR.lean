/- Chapter 12: the library's functions on slices of numbers, over rows. -/
import Derived.Test.YtolfioiccmmifaaDgA
import Derived.Test.YtolfioiccmmifaaDgS
import Derived.Test.YtolfioiccmmifaaDgT
import Derived.Sort.OwnSortedInts
import Derived.Deep.Upon
import Derived.Laws.OwnMore
namespace Go.Proofs.Ytolfioiccmmifaa
open Go.RowKit Go.Sort
abbrev rowZ (zs : List Int) : List Value := zs.map (Value.int .i64)
theorem rowZ_one (zs : List Int) : ∀ u ∈ rowZ zs, u.oneCell' = true := by
  intro u h
  obtain ⟨x, -, rfl⟩ := List.mem_map.1 h
  rfl
theorem rowZ_get (zs : List Int) {j : Nat} {u : Value} (h : (rowZ zs)[j]? = some u) : j < zs.length ∧ u = .int .i64 (zs.getD j 0) := by
  unfold rowZ at h
  rw [List.getElem?_map] at h
  cases e : zs[j]? with
  | none => rw [e] at h; cases h
  | some x =>
    rw [e] at h
    have hj := (List.getElem?_eq_some_iff.1 e).1
    refine ⟨hj, ?_⟩
    injection h with h
    rw [← h, List.getD_eq_getElem?_getD, e]
    rfl
/-- The slice at A of n numbers is the list zs. -/
def SlZ (w : World) (A : Option Addr) (n : Nat) (zs : List Int) : Prop := n = zs.length ∧ (zs = [] ∨ ∃ b off, A = some ⟨b, off, none⟩ ∧ b < w.heap.size ∧ ∀ j, j < zs.length → w.cell? ⟨b, off + j, none⟩ = some (.int .i64 (zs.getD j 0)))
theorem SlZ.below {w w' : World} {A : Option Addr} {n : Nat} {zs : List Int} (h : SlZ w A n zs) (hb : Below w.heap.size w w') : SlZ w' A n zs := by
  obtain ⟨h1, h2 | ⟨b, off, rfl, hl, hc⟩⟩ := h
  · exact ⟨h1, .inl h2⟩
  · exact ⟨h1, .inr ⟨b, off, rfl, Nat.lt_of_lt_of_le hl hb.size, fun j hj => (hb.cell hl).trans (hc j hj)⟩⟩
theorem infoZ : (Try.prog.info? 2).map (fun i => (i.size, i.bytes)) = some (1, 8) ∧ ((Try.prog.info? 2).bind (·.zero)).map (fun z => z.cells.size) = some 1 := by
  constructor <;> kernel_rfl
theorem infoZ2 : ∃ i z, Try.prog.info? 2 = some i ∧ i.zero = some z ∧ i.size = 1 ∧ i.bytes = 8 ∧ z.cells.size = 1 := by
  obtain ⟨h1, h2⟩ := infoZ
  cases e : Try.prog.info? 2 with
  | none => rw [e] at h1; cases h1
  | some i =>
    rw [e] at h1 h2
    simp only [Option.map_some, Option.bind_some] at h1 h2
    injection h1 with h1
    injection h1 with h3 h4
    cases ez : i.zero with
    | none => rw [ez] at h2; cases h2
    | some z =>
      rw [ez] at h2
      simp only [Option.map_some] at h2
      injection h2 with h2
      exact ⟨i, z, rfl, ez, h3, h4, h2⟩
set_option maxHeartbeats 2000000 in
theorem clone_row {A : Option Addr} {n cap : Nat} {zs : List Int} {w : World} (h : SlZ w A n zs) (hb : n ≤ 1048576) : Calls Try.prog 24 #[.slice A n cap] w fun e w' => ∃ v', e = .returned v' ∧ w'.ownsRow w.heap.size 2 1 v' n (rowZ zs) ∧ Below w.heap.size w w' := by
  obtain ⟨i0, z0, hi, hz0, hz1, hz2, hz3⟩ := infoZ2
  cases A with
  | none =>
    obtain ⟨h1, rfl | ⟨b, off, e, -⟩⟩ := h
    · refine (AnyE.slices_Clone_nil Try.clone24 n cap w).mono ?_
      rintro e w' ⟨rfl, rfl⟩
      have : n = 0 := h1
      subst this
      exact ⟨_, rfl, World.ownsRow_nil _ _ _ _, Below.refl _ _⟩
    · cases e
  | some a =>
    obtain ⟨h1, rfl | ⟨b, off, e, hl, hc⟩⟩ := h
    · have hn : n = 0 := h1
      subst hn
      have hsrc : Src Try.prog i0.size 31 (.slice (some a) 0 cap) 0 [] (w.alloc (.cells #[] 2)) := Src.ofSlice _ Try.underlying31 a 0 cap [] (by simp) (fun j u h => by simp at h) (fun u h => nomatch h)
      have happ := run_append_nothing (P := Try.prog) (w.alloc (.cells #[] 2)) 31 31 31 2 i0 Try.underlying31 hi (some ⟨w.heap.size, 0, none⟩) 0 0 (Nat.le_refl _) _ hsrc
      have HAPP := hid happ
      have HROW : Hid ((w.alloc (.cells #[] 2)).ownsRow w.heap.size 2 1 (.slice (some ⟨w.heap.size, 0, none⟩) 0 0) 0 (rowZ [])) := ⟨rfl, .inr ⟨w.heap.size, 0, #[], rfl, Nat.le_refl _, alloc_at _ _, Nat.le_refl _, by unfold maxLen; omega, rfl, rfl⟩⟩
      have q22 : (binOp .eql 31 (.slice (some a) 0 cap) (.slice none 0 0)).run Try.prog w = .ok (.bool false) w := Lib.run_eql_slice_nil w _ _ (some a) 0 cap 0 0 Try.underlying31
      clear h1 hsrc happ hb
      go_enter Try.func24, Try.ntmps24
      go_wp2_with (at_builtin; refine wpList_append_eq rfl (.tmp 5) (.tmp 6) 31 rfl (v := .slice (some ⟨w.heap.size, 0, none⟩) 0 0) (y := .slice (some a) 0 cap) rfl rfl HAPP.out ?_)
      go_ret
      exact ⟨_, rfl, HROW.out, (by repeat (first | with_reducible assumption | with_reducible exact Below.refl _ _ | with_reducible refine Below.drew ?_ | with_reducible refine below_drewN ?_ _ | with_reducible refine below_alloc ?_ _ | with_reducible refine Below.alloc ?_ (by first | omega | (simp; done) | (simp; omega)) _ | with_reducible refine Below.setCell ?_ (by first | omega | (simp; done) | (simp; omega)) _ | with_reducible refine below_setRow ?_ (by first | omega | (simp; done) | (simp; omega)) _))⟩
    · injection e with e
      subst e
      subst h1
      refine (AnyE.slices_Clone Try.clone24 i0 z0 1 8 hi hz0 hz1 hz2 hz3 (by omega) Try.sizeOf2 b off zs.length cap (rowZ zs) w (by simp) (by unfold maxLen; omega) (by omega) (fun j u hu => ?_) (rowZ_one zs)).mono ?_
      · obtain ⟨hj, rfl⟩ := rowZ_get zs hu
        exact hc j hj
      · rintro e w' ⟨v', rfl, h2, -, h3⟩
        exact ⟨v', rfl, h2, h3⟩
theorem compact_len (zs : List Int) : (Lib.compact zs).length ≤ zs.length := by
  unfold Lib.compact Lib.compactUpTo
  rw [List.length_map]
  exact Nat.le_trans (List.length_filter_le _ _) (by simp)
theorem sort_row {b n : Nat} {v : Value} {zs : List Int} {w : World} (h : w.ownsRow b 2 1 v n (rowZ zs)) (hn : n ≤ 1048576) : Calls Try.prog 25 #[v] w fun e w' => e = .returned (.tuple #[]) ∧ w'.ownsRow b 2 1 v n (rowZ (zs.mergeSort fun x y => decide (x ≤ y))) ∧ w.grownBy w' v.ownBlock := by
  have hl : zs.length = n := by have := h.1; simpa using this
  rcases h.2 with ⟨rfl, hz⟩ | ⟨gb, cap2, cur, rfl, hbase, hgb, r1, r2, r3, r4⟩
  · subst hz
    obtain rfl : zs = [] := List.eq_nil_of_length_eq_zero hl
    refine (AnyM.slices_Sort_int_none Try.sort25 none 0 w).mono ?_
    rintro e w' ⟨rfl, rfl⟩
    exact ⟨rfl, by rw [List.mergeSort_nil]; exact World.ownsRow_nil _ _ _ _, World.grownBy.refl _ _⟩
  · have hH : Holds (Value.int .i64) w gb 0 zs.toArray := holds_of_blockI hgb (by rw [hl]; simpa using r4)
    have hgl : gb < w.heap.size := lt_of_at hgb
    have cS := AnyM.slices_Sort_int Try.sort25 gb 0 cap2 zs w hH hgl (by omega)
    rw [hl] at cS
    refine cS.mono ?_
    rintro e w' ⟨rfl, nn, os, rfl⟩
    have h9 := ownsRow_sortedI (w := w) (base := b) (g := gb) (cap := cap2) (n := nn) (e := 2) (os := os) (cur := cur) (ss := zs) (ts := zs.mergeSort fun x y => decide (x ≤ y)) (List.length_mergeSort _) hbase hgb (by omega) r2 r3
    rw [hl] at h9
    exact ⟨rfl, h9, grownBy_sortedI _⟩
theorem compact_row {b n : Nat} {v : Value} {zs : List Int} {w : World} (h : w.ownsRow b 2 1 v n (rowZ zs)) (hn : n ≤ 1048576) : Calls Try.prog 26 #[v] w fun e w' => ∃ v', e = .returned v' ∧ w'.ownsRow b 2 1 v' (Lib.compact zs).length (rowZ (Lib.compact zs)) ∧ v'.ownBlock = v.ownBlock ∧ w.grownBy w' v.ownBlock := by
  have hl : zs.length = n := by have := h.1; simpa using this
  rcases h.2 with ⟨rfl, hz⟩ | ⟨gb, cap2, cur, rfl, hbase, hgb, r1, r2, r3, r4⟩
  · subst hz
    obtain rfl : zs = [] := List.eq_nil_of_length_eq_zero hl
    refine (AnyG.slices_Compact_int_empty Try.compact26 none 0 w).mono ?_
    rintro e w' ⟨rfl, rfl⟩
    exact ⟨_, rfl, World.ownsRow_nil _ _ _ _, rfl, World.grownBy.refl _ _⟩
  · have hH : Holds (Value.int .i64) w gb 0 zs.toArray := holds_of_blockI hgb (by rw [hl]; simpa using r4)
    have cS := AnyG.slices_Compact_int Try.compact26 gb 0 cap2 zs w hH (by omega) (by omega)
    rw [hl] at cS
    have hle := compact_len zs
    refine cS.mono ?_
    rintro e w' ⟨rfl, nn, rfl⟩
    obtain ⟨ts, hts⟩ : ∃ ts, ts = Lib.compact zs ++ List.replicate (n - (Lib.compact zs).length) (0 : Int) := ⟨_, rfl⟩
    have htl : ts.length = zs.length := by rw [hts]; simp; omega
    have h9 := ownsRow_sortedI (w := w) (base := b) (g := gb) (cap := cap2) (n := nn) (e := 2) (os := #[]) (cur := cur) (ss := zs) (ts := ts) htl hbase hgb (by omega) r2 r3
    have h8 := grownBy_sortedI (w := w) (g := gb) (n := nn) (os := #[]) ts.toArray
    rw [grow_empty] at h9 h8
    rw [← hts]
    refine ⟨_, rfl, ?_, rfl, h8⟩
    obtain ⟨-, ⟨q, -⟩ | ⟨g', cap', cur', e, q1, q2, q3, q4, q5, q6⟩⟩ := h9
    · cases q
    · injection e with e1 e2 e3
      injection e1 with e1
      injection e1 with e1
      subst e1 e3
      refine ⟨by simp, .inr ⟨gb, cap2, cur', rfl, q1, q2, by omega, q4, q5, ?_⟩⟩
      have q7 : (cur'.toList.take (zs.length * 1)).take (Lib.compact zs).length = (ts.map (Value.int .i64)).take (Lib.compact zs).length := by rw [q6]
      rw [List.take_take, Nat.mul_one, Nat.min_eq_left hle] at q7
      rw [Nat.mul_one, q7, hts]
      simp
theorem getD_row {b n : Nat} {v : Value} {zs : List Int} {w : World} (h : w.ownsRow b 2 1 v n (rowZ zs)) (h0 : 0 < n) : ∃ g cap, v = .slice (some ⟨g, 0, none⟩) n cap ∧ b ≤ g ∧ g < w.heap.size ∧ (∀ o, w.frozen? ⟨g, o, none⟩ = false) ∧ ∀ j, j < n → w.cell? ⟨g, j, none⟩ = some (.int .i64 (zs.getD j 0)) := by
  have hl : zs.length = n := by have := h.1; simpa using this
  obtain ⟨-, ⟨-, h3⟩ | ⟨g, cap, cur, rfl, hg, hh, -, -, -, ht⟩⟩ := h
  · omega
  · refine ⟨g, cap, rfl, hg, lt_of_at hh, blk_free hh, fun j hj => ?_⟩
    rw [blk_cell hh]
    have e : (rowZ zs)[j]? = some (.int .i64 (zs.getD j 0)) := by
      unfold rowZ
      rw [List.getElem?_map, List.getElem?_eq_getElem (by omega), List.getD_eq_getElem?_getD, List.getElem?_eq_getElem (by omega)]; rfl
    rw [← ht, List.getElem?_take_of_lt (by omega)] at e
    simpa using e
set_option maxHeartbeats 2000000 in
theorem search_none (x : Int) (w : World) : Calls Try.prog 28 #[.slice none 0 0, .int .i64 x] w fun e w' => ∃ k : Int, e = .returned (.tuple #[.int .i64 k, .bool (([] : List Int).contains x)]) ∧ Below w.heap.size w w' := by
  go_enter Try.func28, Try.ntmps28
  go_wp2_with fail
  go_loopw [7, 8] (fun a b wr => a = .int .i64 0 ∧ b = .int .i64 0 ∧ wr = w) (fun _ _ _ => 0)
  case atStart => exact ⟨rfl, rfl, rfl⟩
  case round =>
    obtain ⟨rfl, rfl, rfl⟩ := hrel
    go_wp2
    go_ret2
    exact ⟨0, rfl, Below.refl _ _⟩
theorem search_row {b n : Nat} {v : Value} {zs : List Int} {w : World} (x : Int) (h : w.ownsRow b 2 1 v n (rowZ zs)) (hn : n ≤ 1048576) (hs : zs.Pairwise (· ≤ ·)) : Calls Try.prog 28 #[v, .int .i64 x] w fun e w' => ∃ k : Int, e = .returned (.tuple #[.int .i64 k, .bool (zs.contains x)]) ∧ Below w.heap.size w w' := by
  have hl : zs.length = n := by have := h.1; simpa using this
  rcases h.2 with ⟨rfl, hz⟩ | ⟨gb, cap2, cur, rfl, hbase, hgb, r1, r2, r3, r4⟩
  · subst hz
    obtain rfl : zs = [] := List.eq_nil_of_length_eq_zero hl
    exact search_none x w
  · have hc : ∀ j, j < zs.length → w.cell? ⟨gb, 0 + j, none⟩ = some (.int .i64 (zs.getD j 0)) := fun j hj => by
      obtain ⟨g, cap, e, -, -, -, q⟩ := getD_row h (by omega)
      injection e with e1 e2 e3
      injection e1 with e1
      injection e1 with e1
      subst e1
      rw [Nat.zero_add]; exact q j (by omega)
    have cS := AnyG.slices_BinarySearch_int Try.search28 gb 0 n cap2 zs x w (by omega) (by omega) hc (by rw [List.take_of_length_le (by omega)]; exact hs)
    rw [List.take_of_length_le (by omega)] at cS
    refine cS.mono ?_
    rintro e w' ⟨rfl, q, rfl⟩
    exact ⟨_, rfl, below_drewN (Below.refl _ _) q⟩
/-- Numbers up to 100 that stand in a list, rising. -/
noncomputable def dd (zs : List Int) : List Nat := pick fun x => (x : Int) ∈ zs
theorem compact_rise (zs : List Int) (hs : zs.Pairwise (· ≤ ·)) : (Lib.compact zs).Pairwise (· < ·) ∧ ∀ x, x ∈ Lib.compact zs ↔ x ∈ zs := by
  have hat : ∀ a b, a ≤ b → b < zs.length → zs.toArray[a]! ≤ zs.toArray[b]! := fun a b hab hb => by
    have := Lib.sorted_at zs zs.length (Nat.le_refl _) (by rw [List.take_length]; exact hs) a b hab hb
    have e : ∀ j, j < zs.length → zs.toArray[j]! = zs.getD j 0 := fun j hj => by
      rw [getElem!_pos _ j (by simpa using hj), List.getD_eq_getElem?_getD, List.getElem?_eq_getElem hj]; simp
    rw [e a (by omega), e b hb]; exact this
  have key : ∀ m, m ≤ zs.length → (Lib.compactUpTo zs.toArray m).Pairwise (· < ·) ∧ ∀ x, x ∈ Lib.compactUpTo zs.toArray m ↔ ∃ j, j < m ∧ zs.toArray[j]! = x := by
    intro m
    induction m with
    | zero => intro _; simp [Lib.compactUpTo]
    | succ m ih =>
      intro hm
      obtain ⟨h1, h2⟩ := ih (by omega)
      rw [Lib.compactUpTo_succ]
      by_cases hk : Lib.keeps zs.toArray m = true
      · rw [if_pos hk]
        refine ⟨List.pairwise_append.2 ⟨h1, by simp, fun x hx y hy => ?_⟩, fun x => ?_⟩
        · rw [List.mem_singleton] at hy
          subst hy
          obtain ⟨j, hj, rfl⟩ := (h2 x).1 hx
          unfold Lib.keeps at hk
          rw [decide_eq_true_eq] at hk
          rcases hk with hk | hk
          · omega
          · have a1 := hat j (m - 1) (by omega) (by omega)
            have a2 := hat (m - 1) m (by omega) (by omega)
            omega
        · rw [List.mem_append, h2, List.mem_singleton]
          constructor
          · rintro (⟨j, hj, e⟩ | e)
            · exact ⟨j, by omega, e⟩
            · exact ⟨m, by omega, e.symm⟩
          · rintro ⟨j, hj, e⟩
            by_cases q : j = m
            · right; rw [← e, q]
            · exact .inl ⟨j, by omega, e⟩
      · rw [if_neg hk, List.append_nil]
        refine ⟨h1, fun x => ?_⟩
        rw [h2]
        constructor
        · rintro ⟨j, hj, e⟩
          exact ⟨j, by omega, e⟩
        · rintro ⟨j, hj, e⟩
          by_cases q : j = m
          · subst q
            have hk2 : ¬ (j = 0 ∨ zs.toArray[j]! ≠ zs.toArray[j - 1]!) := fun q => hk (by unfold Lib.keeps; exact decide_eq_true q)
            have e0 : ¬ j = 0 := fun q => hk2 (.inl q)
            have e1 : zs.toArray[j]! = zs.toArray[j - 1]! := by
              by_cases q : zs.toArray[j]! = zs.toArray[j - 1]!
              · exact q
              · exact absurd (.inr q) hk2
            exact ⟨j - 1, by omega, by rw [← e1]; exact e⟩
          · exact ⟨j, by omega, e⟩
  obtain ⟨h1, h2⟩ := key zs.length (Nat.le_refl _)
  refine ⟨h1, fun x => ?_⟩
  show x ∈ Lib.compactUpTo zs.toArray zs.length ↔ _
  rw [h2]
  constructor
  · rintro ⟨j, hj, rfl⟩
    rw [getElem!_pos _ j (by simpa using hj)]
    simp
  · intro hx
    obtain ⟨j, hj, rfl⟩ := List.mem_iff_getElem.1 hx
    refine ⟨j, hj, ?_⟩
    rw [getElem!_pos _ j (by simpa using hj)]
    simp
theorem risingZ_eq : ∀ {l m : List Int}, l.Pairwise (· < ·) → m.Pairwise (· < ·) → (∀ x, x ∈ l ↔ x ∈ m) → l = m
  | [], [], _, _, _ => rfl
  | [], y :: t, _, _, h => by have := (h y).2 (by simp); cases this
  | x :: s, [], _, _, h => by have := (h x).1 (by simp); cases this
  | x :: s, y :: t, h1, h2, h => by
    rw [List.pairwise_cons] at h1 h2
    have exy : x = y := by
      have hx : x ∈ y :: t := (h x).1 (by simp)
      have hy : y ∈ x :: s := (h y).2 (by simp)
      rw [List.mem_cons] at hx hy
      rcases hx with e | e
      · exact e
      · rcases hy with e2 | e2
        · exact e2.symm
        · have := h2.1 x e; have := h1.1 y e2; omega
    subst exy
    congr 1
    refine risingZ_eq h1.2 h2.2 fun z => ⟨fun hz => ?_, fun hz => ?_⟩
    · have := (h z).1 (List.mem_cons_of_mem _ hz)
      rw [List.mem_cons] at this
      rcases this with rfl | e
      · have := h1.1 z hz; omega
      · exact e
    · have := (h z).2 (List.mem_cons_of_mem _ hz)
      rw [List.mem_cons] at this
      rcases this with rfl | e
      · have := h2.1 z hz; omega
      · exact e
abbrev toZ (l : List Nat) : List Int := l.map fun (x : Nat) => (x : Int)
theorem toZ_mem {l : List Nat} {z : Int} : z ∈ toZ l ↔ ∃ x, x ∈ l ∧ (x : Int) = z := List.mem_map
theorem toZ_rise {l : List Nat} (h : l.Pairwise (· < ·)) : (toZ l).Pairwise (· < ·) := by
  rw [List.pairwise_map]
  exact h.imp (fun h => by omega)
theorem toZ_le {l : List Nat} (h : l.Pairwise (· < ·)) : (toZ l).Pairwise (· ≤ ·) := (toZ_rise h).imp (fun h => by omega)
theorem sorted_merge (zs : List Int) : (zs.mergeSort fun x y => decide (x ≤ y)).Pairwise (· ≤ ·) := by
  have := List.pairwise_mergeSort (le := fun x y : Int => decide (x ≤ y)) (fun a b c h1 h2 => by simp at *; omega) (fun a b => by simp; omega) zs
  exact this.imp (fun h => by simpa using h)
theorem merge_rise {zs : List Int} (hn : zs.Nodup) : (zs.mergeSort fun x y => decide (x ≤ y)).Pairwise (· < ·) := by
  have h1 := sorted_merge zs
  have h2 : (zs.mergeSort fun x y => decide (x ≤ y)).Nodup := (List.mergeSort_perm zs _).nodup_iff.2 hn
  exact (List.pairwise_and_iff.2 ⟨h1, h2⟩).imp (fun h => by omega)
/-- Clone, Sort, Compact: the numbers that stand there, rising, each once. -/
theorem dd_eq {zs : List Int} (hr : ∀ z ∈ zs, 1 ≤ z ∧ z ≤ 100) : Lib.compact (zs.mergeSort fun x y => decide (x ≤ y)) = toZ (dd zs) := by
  obtain ⟨h1, h2⟩ := compact_rise _ (sorted_merge zs)
  refine risingZ_eq h1 (toZ_rise (pick_sorted _)) fun z => ?_
  rw [h2, (List.mergeSort_perm zs _).mem_iff, toZ_mem]
  constructor
  · intro hz
    have := hr z hz
    exact ⟨z.toNat, pick_mem.2 ⟨by omega, by rw [show (z.toNat : Int) = z by omega]; exact hz⟩, by omega⟩
  · rintro ⟨x, hx, rfl⟩
    exact (pick_mem.1 hx).2
/-- Sort of a list without repetitions whose members are those of pick Q. -/
theorem sort_pick {l : List Nat} {Q : Nat → Prop} (hn : l.Nodup) (hm : ∀ x, x ∈ l ↔ x ≤ 100 ∧ Q x) : ((toZ l).mergeSort fun x y => decide (x ≤ y)) = toZ (pick Q) := by
  have hn2 : (toZ l).Nodup := by
    show List.Pairwise _ _
    rw [List.pairwise_map]
    exact List.Pairwise.imp (fun h => by omega) hn
  refine risingZ_eq (merge_rise hn2) (toZ_rise (pick_sorted _)) fun z => ?_
  rw [(List.mergeSort_perm _ _).mem_iff, toZ_mem, toZ_mem]
  constructor
  · rintro ⟨x, hx, rfl⟩
    exact ⟨x, pick_mem.2 ((hm x).1 hx), rfl⟩
  · rintro ⟨x, hx, rfl⟩
    exact ⟨x, (hm x).2 (pick_mem.1 hx), rfl⟩
end Go.Proofs.Ytolfioiccmmifaa
