/- Contracts of the reference's Cancel, Next, Due of chapter 10. -/
import Derived.Test.YtacffoobeebleaaTimG
namespace Go.Proofs.Ytacffoobeebleaa
open Go.RowKit
abbrev Sorted (l : List Al) : Prop := l.Pairwise (fun x y => ltA x y = true)
/-- No two alarms have one name. -/
def Apart (l : List Al) : Prop := ∀ i j, i < l.length → j < l.length → (el l i).1 = (el l j).1 → i = j
theorem cut_eq (l : List Al) (k : Nat) : l.take k ++ l.drop (k + 1) = l.eraseIdx k := (List.eraseIdx_eq_take_drop_succ l k).symm
theorem cut_sorted {l : List Al} (h : Sorted l) (k : Nat) : Sorted (l.take k ++ l.drop (k + 1)) := by rw [cut_eq]; exact h.sublist (List.eraseIdx_sublist l k)
theorem cut_mem {l : List Al} {k : Nat} (hk : k < l.length) (hd : Apart l) (x : Al) : x ∈ l.take k ++ l.drop (k + 1) ↔ x ∈ l ∧ x.1 ≠ (el l k).1 := by
  rw [cut_eq, List.mem_eraseIdx_iff_getElem]
  constructor
  · rintro ⟨j, hj, hne, rfl⟩
    refine ⟨List.getElem_mem _, fun e => hne ?_⟩
    rw [← el_eq hj] at e
    exact hd j k hj hk e
  · rintro ⟨hx, hne⟩
    obtain ⟨j, hj, rfl⟩ := mem_el hx
    exact ⟨j, hj, fun e => hne (by rw [e]), (el_eq hj).symm⟩
theorem cut_len {l : List Al} {k : Nat} (hk : k < l.length) : (l.take k ++ l.drop (k + 1)).length + 1 = l.length := by simp; omega
/-- Cancel of the reference, where the name is there. -/
theorem rcancel_any (B R : Nat) (v : Value) (l : List Al) (s : ByteArray) (w : World) (h : RefK B w R v l) (hm : l.length ≤ 1024) (hd : Apart l) (hs : Sorted l) :
    Calls Try.prog 27 #[.pointer (some ⟨R, 0, none⟩), .string s] w fun e w' => e = .returned (.int .i64 (if hasN l s = true then 0 else 3)) ∧ RPost B w w' R v (fun l' => CancelR l s l' ∧ Sorted l') := by
  cases hh : hasN l s with
  | true =>
    obtain ⟨k, hk, e, hn⟩ := least_name hh
    have HH := hid h
    have HK : Hid (k < l.length) := hk
    have HM : Hid (l.length ≤ 1024) := hm
    have HF : Hid (∀ W, RefK B W R v l → _) := fun W hW => rfind_old B R v l s k W hW (by omega) hk e hn
    have HQ : Hid (CancelR l s (l.take k ++ l.drop (k + 1)) ∧ Sorted (l.take k ++ l.drop (k + 1))) := by
      refine ⟨⟨by rw [hh, if_pos rfl]; exact cut_len hk, fun x => by rw [cut_mem hk hd, e]⟩, cut_sorted hs k⟩
    have hk0 : ¬ (k : Int) < 0 := by omega
    clear h hm hk e hn hd hs hh
    go_enter Try.func27, Try.ntmps27
    go_wp2_with fail
    refine (HF.out w HH.out).mono ?_
    rintro e w1 ⟨rfl, hb1⟩
    have HB1 := hid hb1
    clear hb1
    go_wp2_with fail
    refine (rtake_any B R v l k w1 (HH.out.below HB1.out) HM.out HK.out).mono ?_
    rintro e w2 ⟨rfl, h2⟩
    have H2 := hid h2
    clear h2
    go_wp2
    go_ret
    obtain ⟨v', l', q1, rfl, q3, q4⟩ := H2.out
    refine ⟨rfl, v', _, q1, HQ.out, (Tur.of_below HB1.out).then q3, fun i hi => ?_⟩
    rcases q4 i hi with h | h
    · exact .inl h
    · right; have := HB1.out.size; omega
  | false =>
    have HQ : Hid (CancelR l s l) := ⟨by rw [hh]; simp, fun x => ⟨fun hx => ⟨hx, fun e => by rw [(hasN_mem l s).2 ⟨x, hx, e⟩] at hh; cases hh⟩, fun hx => hx.1⟩⟩
    have HF : Hid (∀ W, RefK B W R v l → _) := fun W hW => rfind_none B R v l s W hW (by omega) hh
    have HH := hid h
    have HS := hid hs
    clear h hm hd hs hh
    go_enter Try.func27, Try.ntmps27
    go_wp2_with fail
    refine (HF.out w HH.out).mono ?_
    rintro e w1 ⟨rfl, hb1⟩
    go_wp2
    go_ret
    exact ⟨rfl, RPost.same HH.out hb1 ⟨HQ.out, HS.out⟩⟩
theorem infoArS : (Try.prog.info? 36).map (·.size) = some 2 := by kernel_rfl
set_option maxHeartbeats 1000000 in
theorem rnext_none (B R : Nat) (v : Value) (w : World) (h : RefK B w R v []) :
    Calls Try.prog 28 #[.pointer (some ⟨R, 0, none⟩)] w fun e w' => e = .returned (.tuple #[.agg #[.string ByteArray.empty, .int .i64 0], .int .i64 3]) ∧ Below w.heap.size w w' := by
  obtain ⟨r0, -⟩ := h.cell
  obtain ⟨A, cap, rfl⟩ := h.row.slice
  have hlR := h.lt
  clear h
  rw [show ((([] : List Al).length)) = 0 from rfl] at r0
  go_enter Try.func28, Try.ntmps28
  go_wp2
  all_goals
    refine ret_row2 rfl w.heap.size #[.string ByteArray.empty, .int .i64 0] 36 _ rfl Try.underlying36 rfl infoArS rfl (by apply Exists.intro; refine ⟨?_, ?_⟩; (focus ((repeat (first | (with_reducible assumption) | (with_reducible exact alloc_at _ _) | ((with_reducible apply alloc_at'); (simp; done)) | (with_reducible apply alloc_at_lt) | (with_reducible apply heap_drew_at) | (with_reducible apply heap_drewN_at) | (with_reducible apply heap_setCell_same) | ((with_reducible apply heap_set_ne); (first | omega | (dsimp only; omega) | (simp; done) | (simp; omega))) | (with_reducible apply setRow_at) | ((with_reducible apply setRow_ne); (first | omega | (dsimp only; omega) | (simp; done) | (simp; omega))))))); first | rfl | (simp; done) | (simp; rfl)) ⟨rfl, (by repeat (first | with_reducible assumption | with_reducible exact Below.refl _ _ | with_reducible refine Below.drew ?_ | with_reducible refine below_drewN ?_ _ | with_reducible refine below_alloc ?_ _ | with_reducible refine Below.alloc ?_ (by first | omega | (simp; done) | (simp; omega)) _ | with_reducible refine Below.setCell ?_ (by first | omega | (simp; done) | (simp; omega)) _ | with_reducible refine below_setRow ?_ (by first | omega | (simp; done) | (simp; omega)) _))⟩
set_option maxHeartbeats 1000000 in
theorem rnext_some (B R : Nat) (v : Value) (l : List Al) (w : World) (h : RefK B w R v l) (h0 : 0 < l.length) (hm : l.length ≤ 1024) :
    Calls Try.prog 28 #[.pointer (some ⟨R, 0, none⟩)] w fun e w' => e = .returned (.tuple #[.agg #[.string (el l 0).1, .int .i64 (el l 0).2], .int .i64 0]) ∧ Below w.heap.size w w' := by
  obtain ⟨r0, -⟩ := h.cell
  obtain ⟨g, o, cap, rfl, -, -, hgl, -, hcell⟩ := h.row.cells h0
  obtain ⟨c0, c1⟩ := hcell 0 h0
  have hlR := h.lt
  have hl0 : (0 : Int) < l.length := by omega
  have hl1 : ((l.length : Int) == 0) = false := by simp; intro e; simp [e] at hl0
  simp only [Nat.zero_mul, Nat.add_zero] at c0 c1
  clear h hcell
  go_enter Try.func28, Try.ntmps28
  go_wp2
  all_goals
    refine ret_row2 rfl w.heap.size #[.string (el l 0).1, .int .i64 (el l 0).2] 36 _ rfl Try.underlying36 rfl infoArS rfl (by apply Exists.intro; refine ⟨?_, ?_⟩; (focus ((repeat (first | (with_reducible assumption) | (with_reducible exact alloc_at _ _) | ((with_reducible apply alloc_at'); (simp; done)) | (with_reducible apply alloc_at_lt) | (with_reducible apply heap_drew_at) | (with_reducible apply heap_drewN_at) | (with_reducible apply heap_setCell_same) | ((with_reducible apply heap_set_ne); (first | omega | (dsimp only; omega) | (simp; done) | (simp; omega))) | (with_reducible apply setRow_at) | ((with_reducible apply setRow_ne); (first | omega | (dsimp only; omega) | (simp; done) | (simp; omega))))))); simp) ⟨rfl, (by repeat (first | with_reducible assumption | with_reducible exact Below.refl _ _ | with_reducible refine Below.drew ?_ | with_reducible refine below_drewN ?_ _ | with_reducible refine below_alloc ?_ _ | with_reducible refine Below.alloc ?_ (by first | omega | (simp; done) | (simp; omega)) _ | with_reducible refine Below.setCell ?_ (by first | omega | (simp; done) | (simp; omega)) _ | with_reducible refine below_setRow ?_ (by first | omega | (simp; done) | (simp; omega)) _))⟩
theorem sorted_at {l : List Al} (h : Sorted l) {i j : Nat} (hij : i ≤ j) (hj : j < l.length) : (el l i).2 ≤ (el l j).2 := by
  rcases Nat.lt_or_ge i j with h1 | h1
  · have := List.pairwise_iff_getElem.1 h i j (by omega) hj h1
    rw [← el_eq (by omega), ← el_eq hj, ltA_iff] at this
    omega
  · have : i = j := by omega
    subst this; exact Int.le_refl _
theorem due_cut {l : List Al} {now : Int} {k : Nat} (hs : Sorted l) (hk : k ≤ l.length) (h1 : ∀ i, i < k → (el l i).2 ≤ now) (h2 : k < l.length → ¬ (el l k).2 ≤ now) : DueR now l (l.take k) (l.drop k) := by
  have late : ∀ i, k ≤ i → i < l.length → ¬ (el l i).2 ≤ now := fun i hi hl e => h2 (by omega) (Int.le_trans (sorted_at hs hi hl) e)
  refine ⟨hs.sublist (List.take_sublist k l), fun x => ?_, fun x => ?_, by simp; omega⟩
  · constructor
    · intro hx
      obtain ⟨i, hi, rfl⟩ := mem_el hx
      have hik : i < k := by simp at hi; omega
      rw [el_take hik]
      exact ⟨el_mem (by omega), h1 i hik⟩
    · rintro ⟨hx, hn⟩
      obtain ⟨i, hi, rfl⟩ := mem_el hx
      have hik : i < k := by
        rcases Nat.lt_or_ge i k with h | h
        · exact h
        · exact absurd hn (late i h hi)
      rw [← el_take (l := l) hik]
      exact el_mem (by simp; omega)
  · constructor
    · intro hx
      obtain ⟨i, hi, e⟩ := List.mem_iff_getElem.1 hx
      rw [List.length_drop] at hi
      rw [List.getElem_drop, ← el_eq (by omega)] at e
      subst e
      exact ⟨el_mem (by omega), late _ (by omega) (by omega)⟩
    · rintro ⟨hx, hn⟩
      obtain ⟨i, hi, rfl⟩ := mem_el hx
      have hik : k ≤ i := by
        rcases Nat.lt_or_ge i k with h | h
        · exact absurd (h1 i h) hn
        · exact h
      refine List.mem_iff_getElem.2 ⟨i - k, by simp; omega, ?_⟩
      rw [List.getElem_drop, el_eq hi]
      congr 1
      omega
theorem RowO.drop {B : Nat} {w : World} {g o n cap : Nat} {l : List Al} (h : RowO B w (.slice (some ⟨g, o, none⟩) n cap) l) (k : Nat) (hk : k ≤ l.length) (hkc : k < cap) : RowO B w (.slice (some ⟨g, o + k * 2, none⟩) (l.length - k) (cap - k)) (l.drop k) := by
  rcases h with ⟨h, -⟩ | ⟨g', o', cap', cur, h0, h1, h2, h3, h4, h5, h6⟩
  · cases h
  · cases h0
    refine .inr ⟨g, o + k * 2, cap - k, cur, by rw [List.length_drop], h1, h2, by omega, by rw [List.length_drop]; omega, by omega, fun j u hj => ?_⟩
    have h7 : flatT l = flatT (l.take k) ++ flatT (l.drop k) := by rw [← flatT_append, List.take_append_drop]
    have h8 : (flatT (l.take k)).length = k * 2 := by rw [flatT_length]; simp; omega
    have := h6 (k * 2 + j) u (by rw [h7, List.getElem?_append_right (by omega), h8, show k * 2 + j - k * 2 = j by omega]; exact hj)
    rw [← Nat.add_assoc] at this
    exact this
theorem RowO.empty {B : Nat} {w : World} {g o n cap : Nat} {l : List Al} (h : RowO B w (.slice (some ⟨g, o, none⟩) n cap) l) : RowO B w (.slice (some ⟨g, o, none⟩) 0 0) [] := by
  rcases h with ⟨h, -⟩ | ⟨g', o', cap', cur, h0, h1, h2, h3, h4, h5, h6⟩
  · cases h
  · cases h0
    exact .inr ⟨g, o, 0, cur, rfl, h1, h2, by omega, Nat.le_refl _, Nat.zero_le _, fun j u hj => by simp [flatT] at hj⟩
theorem RowO.mono {B B' : Nat} {w : World} {v : Value} {l : List Al} (h : RowO B w v l) (hB : B' ≤ B) : RowO B' w v l := by
  rcases h with h | ⟨g, o, cap, cur, e, h1, rest⟩
  · exact .inl h
  · exact .inr ⟨g, o, cap, cur, e, Nat.le_trans hB h1, rest⟩
end Go.Proofs.Ytacffoobeebleaa
