/- Contracts of the reference's take, Cancel, Next, Due of chapter 10. -/
import Derived.Test.YtacffoobeebleaaTimJ
namespace Go.Proofs.Ytacffoobeebleaa
open Go.RowKit
set_option maxHeartbeats 2000000 in
theorem rtake_any (B R : Nat) (v : Value) (l : List Al) (k : Nat) (w : World) (h : RefK B w R v l) (hm : l.length ≤ 1024) (hk : k < l.length) :
    Calls Try.prog 32 #[.pointer (some ⟨R, 0, none⟩), .int .i64 k] w fun e w' => e = .returned (.tuple #[]) ∧ RPost B w w' R v (fun l' => l' = l.take k ++ l.drop (k + 1)) := by
  obtain ⟨r0, rf⟩ := h.cell
  have hrow := h.row
  obtain ⟨g, o, cap, rfl, hcap, hg, hgl, -, -⟩ := h.row.cells (by omega)
  have hlR := h.lt
  have hB := h.bs
  have hki : (k : Int) ≤ (cap : Int) := by omega
  have hki1 : (k : Int) + 1 ≤ (l.length : Int) := by omega
  have hk0 : (0 : Int) ≤ (k : Int) + 1 := by omega
  have hk1 : ((k : Int) + 1).toNat = k + 1 := by omega
  have hkn : k ≤ cap := by omega
  have hkn1 : k + 1 ≤ l.length := by omega
  have iw : IntKind.i64.wrap ((k : Int) + 1) = (k : Int) + 1 := IntWalk.i64_in _ (by omega)
  obtain ⟨v1, w2, happ1, hrow2, hG2', hv1⟩ := app_om (m := k) (c := cap) (l' := l.take k) (W := w) (v := .slice none 0 0) (l := []) (by simp; omega) hB (.inl ⟨rfl, rfl⟩) (by simp; omega) 44 ⟨g, o, none⟩ (by have := hrow.part 0 k (by omega); simpa using this)
  have hG2 : w.grownBy w2 none := hG2'
  rw [List.nil_append] at hrow2
  have hv1R : v1.ownBlock ≠ some R := by
    rcases hv1 with h | h
    · rw [h]; intro e; cases e
    · rw [h]; intro e; injection e with e; omega
  have hR2 : w2.heap[R]? = some (.cells #[.slice (some ⟨g, o, none⟩) l.length cap] 46 (0, 0)) := (hG2.block R hlR (fun e => nomatch e)).trans h.blk
  have hg2 : RowO B w2 (.slice (some ⟨g, o, none⟩) l.length cap) l := hrow.at (fun i hi => hG2.block i (hrow.lt i hi).2 (fun e => nomatch e))
  clear hG2'
  go_enter Try.func32, Try.ntmps32
  by_cases hck : cap = k + 1
  · have hd : l.drop (k + 1) = [] := List.drop_eq_nil_of_le (by omega)
    subst hck
    obtain ⟨v2, w3, happ2, hrow3, hG3, hv2⟩ := app_om (m := 0) (c := 0) (l' := l.drop (k + 1)) (by simp; omega) (by have := hG2.size; omega) hrow2 (by simp; omega) 44 ⟨g, o, none⟩ (by rw [hd]; intro j u hu; simp [flatT] at hu)
    have hv2R : v2.ownBlock ≠ some R := by
      rcases hv2 with h | h
      · rw [h]; exact hv1R
      · rw [h]; intro e; injection e with e; have := hG2.size; omega
    have hR3 : w3.heap[R]? = some (.cells #[.slice (some ⟨g, o, none⟩) l.length (k + 1)] 46 (0, 0)) := (hG3.block R (by have := hG2.size; omega) (fun e => hv1R e.symm)).trans hR2
    have T3 : Tur (FootR R (.slice (some ⟨g, o, none⟩) l.length (k + 1))) w w3 := (Tur.of_grown hG2 (fun k e => nomatch e)).trans (Tur.of_grown (F := fun k => v1.ownBlock = some k) hG3 (fun k e => .inl e)) (fun i hi => by
      rcases hv1 with h | h
      · rw [h] at hi; cases hi
      · rw [h] at hi; cases hi; exact .inr (Nat.le_refl _))
    obtain ⟨RK, T4⟩ := h.store T3 hR3 hrow3 hv2R
    obtain ⟨A2, c2, hv2s⟩ := hrow3.slice
    subst hv2s
    have HFIN : Hid (RPost B w (w3.setCell ⟨R, 0, none⟩ (.slice A2 (l.take k ++ l.drop (k + 1)).length c2)) R (.slice (some ⟨g, o, none⟩) l.length (k + 1)) (fun l' => l' = l.take k ++ l.drop (k + 1))) := ⟨_, _, RK, rfl, T4, fun i hi => by
      rcases hi with rfl | hi
      · exact .inl (.inl rfl)
      · right
        rcases hv2 with h2 | h2
        · rw [h2] at hi
          rcases hv1 with h1 | h1
          · rw [h1] at hi; cases hi
          · rw [h1] at hi; cases hi; exact Nat.le_refl _
        · rw [h2] at hi; cases hi; exact hG2.size⟩
    generalize (l.take k ++ l.drop (k + 1)).length = n2 at HFIN happ2
    have r2 : w2.cell? ⟨R, 0, none⟩ = some (.slice (some ⟨g, o, none⟩) l.length (k + 1)) := (blk_cell hR2 0).trans rfl
    have r3 : w3.cell? ⟨R, 0, none⟩ = some (.slice (some ⟨g, o, none⟩) l.length (k + 1)) := (blk_cell hR3 0).trans rfl
    have rf3 := blk_free hR3
    have hlR2 := lt_of_at hR2
    have hlR3 := lt_of_at hR3
    have H1 := hid happ1
    have H2 := hid happ2
    clear happ1 happ2 hrow2 hrow3 hG2 hG3 hv1 hv2 hv1R hv2R hR2 hR3 T3 T4 RK h hrow
    go_upto_region 2 with (at_builtin; refine wpList_append_eq rfl _ _ _ rfl rfl rfl H1.out ?_)
    go_upto_region 3 with (at_builtin; refine wpList_append_eq rfl _ _ _ rfl rfl rfl H2.out ?_)
    go_wp2
    go_end0
    exact ⟨rfl, HFIN.out⟩
  · have hck' : ¬ cap - (k + 1) = 0 := by omega
    obtain ⟨v2, w3, happ2, hrow3, hG3, hv2⟩ := app_om (m := (l.length - (k + 1))) (c := (cap - (k + 1))) (l' := l.drop (k + 1)) (by simp) (by have := hG2.size; omega) hrow2 (by simp; omega) 44 ⟨g, o + (k + 1) * 2, none⟩ (by
            have := hg2.part (k + 1) (l.length - (k + 1)) (by omega)
            rwa [List.take_of_length_le (by simp)] at this)
    have hv2R : v2.ownBlock ≠ some R := by
      rcases hv2 with h | h
      · rw [h]; exact hv1R
      · rw [h]; intro e; injection e with e; have := hG2.size; omega
    have hR3 : w3.heap[R]? = some (.cells #[.slice (some ⟨g, o, none⟩) l.length cap] 46 (0, 0)) := (hG3.block R (by have := hG2.size; omega) (fun e => hv1R e.symm)).trans hR2
    have T3 : Tur (FootR R (.slice (some ⟨g, o, none⟩) l.length cap)) w w3 := (Tur.of_grown hG2 (fun k e => nomatch e)).trans (Tur.of_grown (F := fun k => v1.ownBlock = some k) hG3 (fun k e => .inl e)) (fun i hi => by
      rcases hv1 with h | h
      · rw [h] at hi; cases hi
      · rw [h] at hi; cases hi; exact .inr (Nat.le_refl _))
    obtain ⟨RK, T4⟩ := h.store T3 hR3 hrow3 hv2R
    obtain ⟨A2, c2, hv2s⟩ := hrow3.slice
    subst hv2s
    have HFIN : Hid (RPost B w (w3.setCell ⟨R, 0, none⟩ (.slice A2 (l.take k ++ l.drop (k + 1)).length c2)) R (.slice (some ⟨g, o, none⟩) l.length cap) (fun l' => l' = l.take k ++ l.drop (k + 1))) := ⟨_, _, RK, rfl, T4, fun i hi => by
      rcases hi with rfl | hi
      · exact .inl (.inl rfl)
      · right
        rcases hv2 with h2 | h2
        · rw [h2] at hi
          rcases hv1 with h1 | h1
          · rw [h1] at hi; cases hi
          · rw [h1] at hi; cases hi; exact Nat.le_refl _
        · rw [h2] at hi; cases hi; exact hG2.size⟩
    generalize (l.take k ++ l.drop (k + 1)).length = n2 at HFIN happ2
    have r2 : w2.cell? ⟨R, 0, none⟩ = some (.slice (some ⟨g, o, none⟩) l.length cap) := (blk_cell hR2 0).trans rfl
    have r3 : w3.cell? ⟨R, 0, none⟩ = some (.slice (some ⟨g, o, none⟩) l.length cap) := (blk_cell hR3 0).trans rfl
    have rf3 := blk_free hR3
    have hlR2 := lt_of_at hR2
    have hlR3 := lt_of_at hR3
    have H1 := hid happ1
    have H2 := hid happ2
    clear happ1 happ2 hrow2 hrow3 hG2 hG3 hv1 hv2 hv1R hv2R hR2 hR3 T3 T4 RK h hrow
    go_upto_region 2 with (at_builtin; refine wpList_append_eq rfl _ _ _ rfl rfl rfl H1.out ?_)
    go_upto_region 3 with (at_builtin; refine wpList_append_eq rfl _ _ _ rfl rfl rfl H2.out ?_)
    go_wp2
    go_end0
    exact ⟨rfl, HFIN.out⟩
end Go.Proofs.Ytacffoobeebleaa
