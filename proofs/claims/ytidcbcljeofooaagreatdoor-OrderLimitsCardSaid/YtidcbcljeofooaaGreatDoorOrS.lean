/- Chapter 20: slices of numbers, vectors, names in memory; the library's Split, Sort, Compact on them. -/
import Derived.Test.YtidcbcljeofooaaGreatDoorOrA
import Derived.Test.YtidcbcljeofooaaGreatDoorOrN
import Derived.Test.YtidcbcljeofooaaGreatDoorRws
import Derived.Test.YtidcbcljeofooaaGreatDoorDgT
import Derived.Test.YtidcbcljeofooaaGreatDoorShz
import Derived.Test.YtidcbcljeofooaaGreatDoorVec
import Derived.Sort.OwnSortedInts
import Derived.Deep.Upon
import Derived.Laws.OwnMore
namespace Go.Proofs.YtidcbcljeofooaaGreatDoor
open Go.RowKit Go.Sort
def fZ (x : Int) (_ : Nat) : Value := .int .i64 x
def fS (s : ByteArray) (_ : Nat) : Value := .string s
def fV (v : V) (c : Nat) : Value := .int .i64 (if c = 0 then v.1 else if c = 1 then v.2.1 else if c = 2 then v.2.2.1 else v.2.2.2)
theorem fZ_one (x : Int) (c : Nat) : (fZ x c).oneCell' = true := rfl
theorem fS_one (x : ByteArray) (c : Nat) : (fS x c).oneCell' = true := rfl
theorem fV_one (x : V) (c : Nat) : (fV x c).oneCell' = true := rfl
theorem fV_range (v : V) : (List.range 4).map (fV v) = [.int .i64 v.1, .int .i64 v.2.1, .int .i64 v.2.2.1, .int .i64 v.2.2.2] := rfl
abbrev rowZ (zs : List Int) : List Value := zs.map (Value.int .i64)
theorem flat_Z (zs : List Int) : flatR 1 fZ zs = rowZ zs := by
  induction zs with
  | nil => rfl
  | cons k t ih =>
    have e : flatR 1 fZ (k :: t) = (List.range 1).map (fZ k) ++ flatR 1 fZ t := by simp [flatR]
    rw [e, ih]
    rfl
theorem flat_S (ks : List ByteArray) : flatR 1 fS ks = ks.map Value.string := by
  induction ks with
  | nil => rfl
  | cons k t ih =>
    have e : flatR 1 fS (k :: t) = (List.range 1).map (fS k) ++ flatR 1 fS t := by simp [flatR]
    rw [e, ih]
    rfl
theorem recZ : RecT 2 27 1 8 Tryz.prog := recT_of Tryz.underlying27 (by kernel_rfl) (by kernel_rfl)
theorem recS : RecT 9 29 1 16 Tryz.prog := recT_of Tryz.underlying29 (by kernel_rfl) (by kernel_rfl)
theorem recV : RecT 24 28 4 32 Tryz.prog := recT_of Tryz.underlying28 (by kernel_rfl) (by kernel_rfl)
theorem rowZ_one (zs : List Int) : ∀ u ∈ rowZ zs, u.oneCell' = true := by
  intro u h
  obtain ⟨x, -, rfl⟩ := List.mem_map.1 h
  rfl
theorem rowZ_get (zs : List Int) {j : Nat} {u : Value} (h : (rowZ zs)[j]? = some u) : j < zs.length ∧ u = .int .i64 (zs.getD j 0) := by
  unfold rowZ at h
  rw [List.getElem?_map] at h
  cases e : zs[j]? with
  | none => rw [e] at h; cases h
  | some x =>
    rw [e] at h
    have hj := (List.getElem?_eq_some_iff.1 e).1
    refine ⟨hj, ?_⟩
    injection h with h
    rw [← h, List.getD_eq_getElem?_getD, e]
    rfl
theorem compact_len (zs : List Int) : (Lib.compact zs).length ≤ zs.length := by
  unfold Lib.compact Lib.compactUpTo
  rw [List.length_map]
  exact Nat.le_trans (List.length_filter_le _ _) (by simp)
theorem sort_row {b n : Nat} {v : Value} {zs : List Int} {w : World} (h : w.ownsRow b 2 1 v n (rowZ zs)) (hn : n ≤ 1048576) : Calls Tryz.prog 79 #[v] w fun e w' => e = .returned (.tuple #[]) ∧ w'.ownsRow b 2 1 v n (rowZ (zs.mergeSort fun x y => decide (x ≤ y))) ∧ w.grownBy w' v.ownBlock := by
  have hl : zs.length = n := by have := h.1; simpa using this
  rcases h.2 with ⟨rfl, hz⟩ | ⟨gb, cap2, cur, rfl, hbase, hgb, r1, r2, r3, r4⟩
  · subst hz
    obtain rfl : zs = [] := List.eq_nil_of_length_eq_zero hl
    refine (AnyM.slices_Sort_int_none Tryz.sortI none 0 w).mono ?_
    rintro e w' ⟨rfl, rfl⟩
    exact ⟨rfl, by rw [List.mergeSort_nil]; exact World.ownsRow_nil _ _ _ _, World.grownBy.refl _ _⟩
  · have hH : Holds (Value.int .i64) w gb 0 zs.toArray := holds_of_blockI hgb (by rw [hl]; simpa using r4)
    have hgl : gb < w.heap.size := lt_of_at hgb
    have cS := AnyM.slices_Sort_int Tryz.sortI gb 0 cap2 zs w hH hgl (by omega)
    rw [hl] at cS
    refine cS.mono ?_
    rintro e w' ⟨rfl, nn, os, rfl⟩
    have h9 := ownsRow_sortedI (w := w) (base := b) (g := gb) (cap := cap2) (n := nn) (e := 2) (os := os) (cur := cur) (ss := zs) (ts := zs.mergeSort fun x y => decide (x ≤ y)) (List.length_mergeSort _) hbase hgb (by omega) r2 r3
    rw [hl] at h9
    exact ⟨rfl, h9, grownBy_sortedI _⟩
theorem compact_row {b n : Nat} {v : Value} {zs : List Int} {w : World} (h : w.ownsRow b 2 1 v n (rowZ zs)) (hn : n ≤ 1048576) : Calls Tryz.prog 80 #[v] w fun e w' => ∃ v', e = .returned v' ∧ w'.ownsRow b 2 1 v' (Lib.compact zs).length (rowZ (Lib.compact zs)) ∧ v'.ownBlock = v.ownBlock ∧ w.grownBy w' v.ownBlock := by
  have hl : zs.length = n := by have := h.1; simpa using this
  rcases h.2 with ⟨rfl, hz⟩ | ⟨gb, cap2, cur, rfl, hbase, hgb, r1, r2, r3, r4⟩
  · subst hz
    obtain rfl : zs = [] := List.eq_nil_of_length_eq_zero hl
    refine (AnyG.slices_Compact_int_empty Tryz.compI none 0 w).mono ?_
    rintro e w' ⟨rfl, rfl⟩
    exact ⟨_, rfl, World.ownsRow_nil _ _ _ _, rfl, World.grownBy.refl _ _⟩
  · have hH : Holds (Value.int .i64) w gb 0 zs.toArray := holds_of_blockI hgb (by rw [hl]; simpa using r4)
    have cS := AnyG.slices_Compact_int Tryz.compI gb 0 cap2 zs w hH (by omega) (by omega)
    rw [hl] at cS
    have hle := compact_len zs
    refine cS.mono ?_
    rintro e w' ⟨rfl, nn, rfl⟩
    obtain ⟨ts, hts⟩ : ∃ ts, ts = Lib.compact zs ++ List.replicate (n - (Lib.compact zs).length) (0 : Int) := ⟨_, rfl⟩
    have htl : ts.length = zs.length := by rw [hts]; simp; omega
    have h9 := ownsRow_sortedI (w := w) (base := b) (g := gb) (cap := cap2) (n := nn) (e := 2) (os := #[]) (cur := cur) (ss := zs) (ts := ts) htl hbase hgb (by omega) r2 r3
    have h8 := grownBy_sortedI (w := w) (g := gb) (n := nn) (os := #[]) ts.toArray
    rw [grow_empty] at h9 h8
    rw [← hts]
    refine ⟨_, rfl, ?_, rfl, h8⟩
    obtain ⟨-, ⟨q, -⟩ | ⟨g', cap', cur', e, q1, q2, q3, q4, q5, q6⟩⟩ := h9
    · cases q
    · injection e with e1 e2 e3
      injection e1 with e1
      injection e1 with e1
      subst e1 e3
      refine ⟨by simp, .inr ⟨gb, cap2, cur', rfl, q1, q2, by omega, q4, q5, ?_⟩⟩
      have q7 : (cur'.toList.take (zs.length * 1)).take (Lib.compact zs).length = (ts.map (Value.int .i64)).take (Lib.compact zs).length := by rw [q6]
      rw [List.take_take, Nat.mul_one, Nat.min_eq_left hle] at q7
      rw [Nat.mul_one, q7, hts]
      simp
theorem getD_row {b n : Nat} {v : Value} {zs : List Int} {w : World} (h : w.ownsRow b 2 1 v n (rowZ zs)) (h0 : 0 < n) : ∃ g cap, v = .slice (some ⟨g, 0, none⟩) n cap ∧ b ≤ g ∧ g < w.heap.size ∧ (∀ o, w.frozen? ⟨g, o, none⟩ = false) ∧ ∀ j, j < n → w.cell? ⟨g, j, none⟩ = some (.int .i64 (zs.getD j 0)) := by
  have hl : zs.length = n := by have := h.1; simpa using this
  obtain ⟨-, ⟨-, h3⟩ | ⟨g, cap, cur, rfl, hg, hh, -, -, -, ht⟩⟩ := h
  · omega
  · refine ⟨g, cap, rfl, hg, lt_of_at hh, blk_free hh, fun j hj => ?_⟩
    rw [blk_cell hh]
    have e : (rowZ zs)[j]? = some (.int .i64 (zs.getD j 0)) := by
      unfold rowZ
      rw [List.getElem?_map, List.getElem?_eq_getElem (by omega), List.getD_eq_getElem?_getD, List.getElem?_eq_getElem (by omega)]; rfl
    rw [← ht, List.getElem?_take_of_lt (by omega)] at e
    simpa using e
theorem compact_rise (zs : List Int) (hs : zs.Pairwise (· ≤ ·)) : (Lib.compact zs).Pairwise (· < ·) ∧ ∀ x, x ∈ Lib.compact zs ↔ x ∈ zs := by
  have hat : ∀ a b, a ≤ b → b < zs.length → zs.toArray[a]! ≤ zs.toArray[b]! := fun a b hab hb => by
    have := Lib.sorted_at zs zs.length (Nat.le_refl _) (by rw [List.take_length]; exact hs) a b hab hb
    have e : ∀ j, j < zs.length → zs.toArray[j]! = zs.getD j 0 := fun j hj => by
      rw [getElem!_pos _ j (by simpa using hj), List.getD_eq_getElem?_getD, List.getElem?_eq_getElem hj]; simp
    rw [e a (by omega), e b hb]; exact this
  have key : ∀ m, m ≤ zs.length → (Lib.compactUpTo zs.toArray m).Pairwise (· < ·) ∧ ∀ x, x ∈ Lib.compactUpTo zs.toArray m ↔ ∃ j, j < m ∧ zs.toArray[j]! = x := by
    intro m
    induction m with
    | zero => intro _; simp [Lib.compactUpTo]
    | succ m ih =>
      intro hm
      obtain ⟨h1, h2⟩ := ih (by omega)
      rw [Lib.compactUpTo_succ]
      by_cases hk : Lib.keeps zs.toArray m = true
      · rw [if_pos hk]
        refine ⟨List.pairwise_append.2 ⟨h1, by simp, fun x hx y hy => ?_⟩, fun x => ?_⟩
        · rw [List.mem_singleton] at hy
          subst hy
          obtain ⟨j, hj, rfl⟩ := (h2 x).1 hx
          unfold Lib.keeps at hk
          rw [decide_eq_true_eq] at hk
          rcases hk with hk | hk
          · omega
          · have a1 := hat j (m - 1) (by omega) (by omega)
            have a2 := hat (m - 1) m (by omega) (by omega)
            omega
        · rw [List.mem_append, h2, List.mem_singleton]
          constructor
          · rintro (⟨j, hj, e⟩ | e)
            · exact ⟨j, by omega, e⟩
            · exact ⟨m, by omega, e.symm⟩
          · rintro ⟨j, hj, e⟩
            by_cases q : j = m
            · right; rw [← e, q]
            · exact .inl ⟨j, by omega, e⟩
      · rw [if_neg hk, List.append_nil]
        refine ⟨h1, fun x => ?_⟩
        rw [h2]
        constructor
        · rintro ⟨j, hj, e⟩
          exact ⟨j, by omega, e⟩
        · rintro ⟨j, hj, e⟩
          by_cases q : j = m
          · subst q
            have hk2 : ¬ (j = 0 ∨ zs.toArray[j]! ≠ zs.toArray[j - 1]!) := fun q => hk (by unfold Lib.keeps; exact decide_eq_true q)
            have e0 : ¬ j = 0 := fun q => hk2 (.inl q)
            have e1 : zs.toArray[j]! = zs.toArray[j - 1]! := by
              by_cases q : zs.toArray[j]! = zs.toArray[j - 1]!
              · exact q
              · exact absurd (.inr q) hk2
            exact ⟨j - 1, by omega, by rw [← e1]; exact e⟩
          · exact ⟨j, by omega, e⟩
  obtain ⟨h1, h2⟩ := key zs.length (Nat.le_refl _)
  refine ⟨h1, fun x => ?_⟩
  show x ∈ Lib.compactUpTo zs.toArray zs.length ↔ _
  rw [h2]
  constructor
  · rintro ⟨j, hj, rfl⟩
    rw [getElem!_pos _ j (by simpa using hj)]
    simp
  · intro hx
    obtain ⟨j, hj, rfl⟩ := List.mem_iff_getElem.1 hx
    refine ⟨j, hj, ?_⟩
    rw [getElem!_pos _ j (by simpa using hj)]
    simp

/-- What Sort and Compact leave. -/
theorem compact_ded (zs : List Int) : Lib.compact (zs.mergeSort fun x y => decide (x ≤ y)) = ded zs := by
  obtain ⟨h1, h2⟩ := compact_rise (zs.mergeSort fun x y => decide (x ≤ y)) (by
    have := List.pairwise_mergeSort (le := fun x y : Int => decide (x ≤ y)) (by intro a b c h1 h2; simp at *; omega) (by intro a b; simp; omega) zs
    exact this.imp (fun h => by simpa using h))
  exact ded_of h1 fun x => by rw [h2, (List.mergeSort_perm zs _).mem_iff]
/-- strings.Split by one byte. -/
theorem gensplit_one (c : UInt8) (s : ByteArray) (w : World) (hs : s.size ≤ 1048576) :
    Calls Tryz.prog 92 #[.string s, .string ⟨#[c]⟩, .int .i64 0, .int .i64 (-1)] w fun e w' =>
      e = .returned (.slice (some ⟨w.heap.size, 0, none⟩) (spl c s.data.toList).length (spl c s.data.toList).length) ∧ w' = w.alloc (.cells ((spl c s.data.toList).map fun l => Value.string ⟨l.toArray⟩).toArray 9) := by
  have hcnt : Lib.countB s ⟨#[c]⟩ = s.data.toList.count c := Lib.count_one c s.data.toList
  have hle := Lib.countB_le ⟨#[c]⟩ (by show 1 ≤ 1; omega) s.size s (Nat.le_refl _)
  have hlen := Lib.splitB_all ⟨#[c]⟩ (by show 1 ≤ 1; omega) 0 _ s rfl
  have hdat := Lib.splitB_data ⟨#[c]⟩ 0 (Lib.countB s ⟨#[c]⟩) s
  have hspl : Lib.splitK [c] 0 (Lib.countB s ⟨#[c]⟩) s.data.toList = spl c s.data.toList := splitK_spl c _ _ (by rw [hcnt]; exact Nat.le_refl _)
  have hL : (Lib.splitB ⟨#[c]⟩ 0 (Lib.countB s ⟨#[c]⟩) s) = (spl c s.data.toList).map fun l => (⟨l.toArray⟩ : ByteArray) := by
    rw [← hspl, ← show _ = Lib.splitK [c] 0 (Lib.countB s ⟨#[c]⟩) s.data.toList from hdat, List.map_map]
    conv => lhs; rw [← List.map_id (Lib.splitB ⟨#[c]⟩ 0 (Lib.countB s ⟨#[c]⟩) s)]
    exact List.map_congr_left fun x _ => (mk_toList x).symm
  have hn : (spl c s.data.toList).length = Lib.countB s ⟨#[c]⟩ + 1 := by rw [← hlen, hL, List.length_map]
  have hIdx := fun (x : ByteArray) (cs : Array Value) => Tryz.strings_Index_one x c (w.alloc (.cells cs 9))
  have hCnt := Tryz.strings_Count_one s c w
  have cc := Any.strings_genSplit_core Tryz.lays221 (by kernel_rfl) s ⟨#[c]⟩ 0 (-1) (Lib.countB s ⟨#[c]⟩ + 1) w (by omega) (by show 1 ≤ 1; omega) (Nat.zero_le _)
    (fun x cs _ => (hIdx x cs).mono fun e w' ⟨he, hw⟩ => ⟨by rw [he, ← Lib.index_one], hw⟩)
    (hCnt.mono fun e w' ⟨he, hw⟩ => ⟨by rw [he, hcnt]; rfl, hw⟩) (by decide) (by decide) (by rw [if_pos (by decide)]; omega)
  rw [Nat.add_sub_cancel, hlen] at cc
  have e2 : Lib.cellsOf (Lib.splitB ⟨#[c]⟩ 0 (Lib.countB s ⟨#[c]⟩) s) (Lib.countB s ⟨#[c]⟩ + 1) = ((Lib.splitB ⟨#[c]⟩ 0 (Lib.countB s ⟨#[c]⟩) s).map Value.string).toArray := by rw [← hlen]; exact Lib.cellsOf_full _
  rw [e2, hL, List.map_map, ← hn] at cc
  exact cc
set_option maxHeartbeats 1000000 in
theorem split_any (c : UInt8) (s : ByteArray) (w : World) (hs : s.size ≤ 1048576) :
    Calls Tryz.prog 78 #[.string s, .string ⟨#[c]⟩] w fun e w' => ∃ n, n = (spl c s.data.toList).length ∧ e = .returned (.slice (some ⟨w.heap.size, 0, none⟩) n n) ∧ w.heap.size < w'.heap.size ∧
      (∀ i x, (spl c s.data.toList)[i]? = some x → w'.cell? ⟨w.heap.size, i, none⟩ = some (.string ⟨x.toArray⟩)) ∧ Below w.heap.size w w' := by
  have HC := hid (gensplit_one c s w hs)
  have FIN : ∀ l : List (List UInt8), Hid ((∀ i x, l[i]? = some x → (w.alloc (.cells (l.map fun l => Value.string ⟨l.toArray⟩).toArray 9)).cell? ⟨w.heap.size, i, none⟩ = some (.string ⟨x.toArray⟩)) ∧ Below w.heap.size w (w.alloc (.cells (l.map fun l => Value.string ⟨l.toArray⟩).toArray 9))) := fun l => by
    refine ⟨fun i x hx => ?_, below_alloc (Below.refl _ _) _⟩
    rw [blk_cell (alloc_at w _)]
    simp [hx]
  generalize spl c s.data.toList = l at *
  clear hs
  go_enter Tryz.func78, Tryz.ntmps78
  go_wp2_with fail
  refine HC.out.mono ?_
  rintro e w1 ⟨rfl, hw1⟩
  rw [hw1]
  go_wp2
  go_ret
  exact ⟨l.length, rfl, rfl, by simp, (FIN l).out.1, (FIN l).out.2⟩
end Go.Proofs.YtidcbcljeofooaaGreatDoor
