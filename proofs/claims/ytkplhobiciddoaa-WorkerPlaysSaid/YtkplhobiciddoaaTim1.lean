/- Contracts of chapter 10's Len, Less, Swap. -/
import Derived.Test.YtkplhobiciddoaaTimM
import Derived.BigRegion
import Derived.RegionTactic
import Derived.Deep.RegionLaw
namespace Go.Proofs.Ytkplhobiciddoaa
open Go.RowKit
set_option maxHeartbeats 1000000 in
theorem len_any {zn : Value} (B c n : Nat) (v : Value) (m : Option Nat) (l : List Al) (I : List UInt8 → Option Int) (w : World) (h : ClkS B w c zn v m l n I) :
    Calls Try.prog 40 #[.pointer (some ⟨c, 1, none⟩)] w fun e w' => e = .returned (.int .i64 l.length) ∧ Below w.heap.size w w' := by
  obtain ⟨c0, c1, cf⟩ := h.cell
  obtain ⟨A, cap, rfl⟩ := h.slice
  have hlt := h.lt
  clear h
  go_enter Try.func40, Try.ntmps40
  go_wp2
  all_goals
    go_ret
    exact ⟨rfl, (by repeat (first | with_reducible assumption | with_reducible exact Below.refl _ _ | with_reducible refine Below.drew ?_ | with_reducible refine below_drewN ?_ _ | with_reducible refine below_alloc ?_ _ | with_reducible refine Below.alloc ?_ (by first | omega | (simp; done) | (simp; omega)) _ | with_reducible refine Below.setCell ?_ (by first | omega | (simp; done) | (simp; omega)) _ | with_reducible refine below_setRow ?_ (by first | omega | (simp; done) | (simp; omega)) _))⟩
set_option maxHeartbeats 4000000 in
theorem less_any {zn : Value} (B c n : Nat) (v : Value) (m : Option Nat) (l : List Al) (I : List UInt8 → Option Int) (i j : Nat) (w : World) (h : ClkS B w c zn v m l n I) (hm : l.length ≤ 100000) (hi : i < l.length) (hj : j < l.length) :
    Calls Try.prog 105 #[.agg #[.pointer (some ⟨c, 1, none⟩)], .int .i64 i, .int .i64 j] w fun e w' => e = .returned (.bool (ltA (el l i) (el l j))) ∧ Below w.heap.size w w' := by
  obtain ⟨c0, -, -⟩ := h.cell
  obtain ⟨g, cap, rfl, -, -, hgl, hgf, hcell⟩ := h.cells (by omega)
  obtain ⟨ci0, ci1⟩ := hcell i hi
  obtain ⟨cj0, cj1⟩ := hcell j hj
  have hlt := h.lt
  have hii : (i : Int) < l.length := by omega
  have hjj : (j : Int) < l.length := by omega
  obtain ⟨⟨s, a⟩, hx⟩ : ∃ x, x = el l i := ⟨_, rfl⟩
  obtain ⟨⟨t, b⟩, hy⟩ : ∃ x, x = el l j := ⟨_, rfl⟩
  rw [← hx, ← hy]
  rw [← hx] at ci0 ci1
  rw [← hy] at cj0 cj1
  clear hx hy h hcell
  go_enter Try.func105, Try.ntmps105
  go_upto_region 1 with fail
  refine wp_name ?_
  intro w0 hw0
  have A0 : w0.heap[w.heap.size]? = some (.cells #[.pointer (some ⟨c, 1, none⟩)] 86 (0, 0)) := by rw [hw0]; exact (by (repeat (first | (with_reducible assumption) | (with_reducible exact alloc_at _ _) | ((with_reducible apply alloc_at'); (simp; done)) | (with_reducible apply alloc_at_lt) | (with_reducible apply heap_drew_at) | (with_reducible apply heap_drewN_at) | (with_reducible apply heap_setCell_same) | ((with_reducible apply heap_set_ne); (first | omega | (dsimp only; omega) | (simp; done) | (simp; omega))) | (with_reducible apply setRow_at) | ((with_reducible apply setRow_ne); (first | omega | (dsimp only; omega) | (simp; done) | (simp; omega))))))
  have B0 : Below w.heap.size w w0 := by rw [hw0]; exact (by repeat (first | with_reducible assumption | with_reducible exact Below.refl _ _ | with_reducible refine Below.drew ?_ | with_reducible refine below_drewN ?_ _ | with_reducible refine below_alloc ?_ _ | with_reducible refine Below.alloc ?_ (by first | omega | (simp; done) | (simp; omega)) _ | with_reducible refine Below.setCell ?_ (by first | omega | (simp; done) | (simp; omega)) _ | with_reducible refine below_setRow ?_ (by first | omega | (simp; done) | (simp; omega)) _))
  clear hw0
  have a0 : w0.cell? ⟨w.heap.size, 0, none⟩ = some (.pointer (some ⟨c, 1, none⟩)) := (blk_cell A0 0).trans rfl
  have l0 := lt_of_at A0
  have d0 : w0.cell? ⟨c, 1, none⟩ = some (.slice (some ⟨g, 0, none⟩) l.length cap) := (B0.cell (p := ⟨c, 1, none⟩) hlt).trans c0
  have di0 : w0.cell? ⟨g, i * 2, none⟩ = some (.string s) := (B0.cell (p := ⟨g, i * 2, none⟩) hgl).trans ci0
  have di1 : w0.cell? ⟨g, i * 2 + 1, none⟩ = some (.int .i64 a) := (B0.cell (p := ⟨g, i * 2 + 1, none⟩) hgl).trans ci1
  have dj0 : w0.cell? ⟨g, j * 2, none⟩ = some (.string t) := (B0.cell (p := ⟨g, j * 2, none⟩) hgl).trans cj0
  have dj1 : w0.cell? ⟨g, j * 2 + 1, none⟩ = some (.int .i64 b) := (B0.cell (p := ⟨g, j * 2 + 1, none⟩) hgl).trans cj1
  have l1 : c < w0.heap.size := by have := B0.size; omega
  have l2 : g < w0.heap.size := by have := B0.size; omega
  clear c0 ci0 ci1 cj0 cj1 hgf
  go_cut [7, 8] (fun s7 s8 wx => ∃ p q : Nat, s7 = .pointer (some ⟨p, 0, none⟩) ∧ s8 = .pointer (some ⟨q, 0, none⟩) ∧ Below w0.heap.size w0 wx ∧ wx.heap[p]? = some (.cells #[.string s, .int .i64 a] 71 (0, 0)) ∧ wx.heap[q]? = some (.cells #[.string t, .int .i64 b] 71 (0, 0)))
  case first =>
    go_region_held3 (fun w' => Below w0.heap.size w0 w' ∧ (∀ b o, b < w0.heap.size → w'.cell? ⟨b, o, none⟩ = w0.cell? ⟨b, o, none⟩) ∧ ∀ b o, b < w0.heap.size → w'.frozen? ⟨b, o, none⟩ = w0.frozen? ⟨b, o, none⟩) (first | ((try go_split_ands); (try dsimp only); refine same_of ?_; (repeat (first | with_reducible assumption | with_reducible exact Below.refl _ _ | with_reducible refine Below.drew ?_ | with_reducible refine below_drewN ?_ _ | with_reducible refine below_alloc ?_ _ | with_reducible refine Below.alloc ?_ (by first | omega | (simp; done) | (simp; omega)) _ | with_reducible refine Below.setCell ?_ (by first | omega | (simp; done) | (simp; omega)) _ | with_reducible refine below_setRow ?_ (by first | omega | (simp; done) | (simp; omega)) _)); done) | ((try go_split_ands); (try dsimp only); refine same_of ?_; (repeat (first | with_reducible refine below_call ?_ hb99 | with_reducible assumption | with_reducible exact Below.refl _ _ | with_reducible refine Below.drew ?_ | with_reducible refine below_alloc ?_ _ | with_reducible refine Below.setCell ?_ (by (try have qz_hb99 := hb99.size); (try simp only [World.size_alloc, World.size_setCell, heap_drew] at qz_hb99); (try (obtain ⟨qy_hb99, -, -⟩ : Below _ _ w99 ∧ _ ∧ _ := by assumption; have qx_hb99 := qy_hb99.size)); first | omega | (dsimp only; omega)) _)); done)) (fail)
    all_goals
      obtain ⟨hb98, -, -⟩ : Below w0.heap.size w0 _ ∧ _ ∧ _ := by assumption
      go_wp2_with fail
      go_meet
      exact ⟨_, _, rfl, rfl, (by repeat (first | with_reducible assumption | with_reducible exact Below.refl _ _ | with_reducible refine Below.drew ?_ | with_reducible refine below_drewN ?_ _ | with_reducible refine below_alloc ?_ _ | with_reducible refine Below.alloc ?_ (by first | omega | (simp; done) | (simp; omega)) _ | with_reducible refine Below.setCell ?_ (by first | omega | (simp; done) | (simp; omega)) _ | with_reducible refine below_setRow ?_ (by first | omega | (simp; done) | (simp; omega)) _)), at_of (by apply Exists.intro; refine ⟨?_, ?_⟩; (focus ((repeat (first | (with_reducible assumption) | (with_reducible exact alloc_at _ _) | ((with_reducible apply alloc_at'); (simp; done)) | (with_reducible apply alloc_at_lt) | (with_reducible apply heap_drew_at) | (with_reducible apply heap_drewN_at) | (with_reducible apply heap_setCell_same) | ((with_reducible apply heap_set_ne); (first | omega | (dsimp only; omega) | (simp; done) | (simp; omega))) | (with_reducible apply setRow_at) | ((with_reducible apply setRow_ne); (first | omega | (dsimp only; omega) | (simp; done) | (simp; omega))))))); simp), at_of (by apply Exists.intro; refine ⟨?_, ?_⟩; (focus ((repeat (first | (with_reducible assumption) | (with_reducible exact alloc_at _ _) | ((with_reducible apply alloc_at'); (simp; done)) | (with_reducible apply alloc_at_lt) | (with_reducible apply heap_drew_at) | (with_reducible apply heap_drewN_at) | (with_reducible apply heap_setCell_same) | ((with_reducible apply heap_set_ne); (first | omega | (dsimp only; omega) | (simp; done) | (simp; omega))) | (with_reducible apply setRow_at) | ((with_reducible apply setRow_ne); (first | omega | (dsimp only; omega) | (simp; done) | (simp; omega))))))); simp)⟩
  case rest =>
    obtain ⟨p, q, rfl, rfl, hb, hp, hq⟩ := hcut
    obtain ⟨w1, rfl⟩ : ∃ wx_ : World, wx_ = wc := ⟨_, rfl⟩
    obtain ⟨p0, p1, pf⟩ := two hp
    obtain ⟨q0, q1, qf⟩ := two hq
    have hpl := lt_of_at hp
    have hql := lt_of_at hq
    have hb := B0.trans (hb.mono B0.size)
    clear hp hq di0 di1 dj0 dj1 d0 a0
    rcases Int.lt_trichotomy a b with hab | hab | hab
    · go_wp2
      all_goals
        go_ret
        exact ⟨by simp [ltA, hab], hb⟩
    · subst hab
      go_wp2
      all_goals
        go_ret
        exact ⟨by simp [ltA, ltS], hb⟩
    · have h1 : ¬ a < b := by omega
      have h2 : ¬ a = b := by omega
      go_wp2
      all_goals
        go_ret
        exact ⟨by simp [ltA, h1, h2], hb⟩
end Go.Proofs.Ytkplhobiciddoaa
