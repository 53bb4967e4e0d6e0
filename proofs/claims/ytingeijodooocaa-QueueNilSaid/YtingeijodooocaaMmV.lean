/- Chapter 14's interval heap in memory; less. -/
import Derived.Test.YtingeijodooocaaMmN
import Derived.Test.YtingeijodooocaaMmC
import Derived.Test.YtingeijodooocaaRws
import Derived.Test.YtingeijodooocaaDgT
namespace Go.Proofs.Ytingeijodooocaa
open Go.RowKit
def upf {α : Type} (f : Nat → α) (i : Nat) (v : α) : Nat → α := fun j => if j = i then v else f j
def li {α : Type} (e : Nat → α) (n : Nat) : List α := (List.range n).map e
theorem li_len {α : Type} (e : Nat → α) (n : Nat) : (li e n).length = n := by simp [li]
theorem li_at {α : Type} (e : Nat → α) {n i : Nat} (h : i < n) : (li e n)[i]? = some (e i) := by simp [li, h]
theorem li_set {α : Type} (e : Nat → α) (n : Nat) {i : Nat} (v : α) : (li e n).set i v = li (upf e i v) n := by
  refine List.ext_getElem? fun j => ?_
  by_cases hj : j < n
  · by_cases q : i = j
    · subst q
      rw [List.getElem?_set_self (by rw [li_len]; exact hj), li_at _ hj]
      simp [upf]
    · rw [List.getElem?_set_ne q, li_at _ hj, li_at _ hj]
      have : ¬ j = i := fun x => q x.symm
      simp [upf, this]
  · rw [List.getElem?_eq_none (by rw [List.length_set, li_len]; omega), List.getElem?_eq_none (by rw [li_len]; omega)]
theorem li_more {α : Type} (e : Nat → α) (n : Nat) (v : α) : li e n ++ [v] = li (upf e n v) (n + 1) := by
  unfold li
  rw [List.range_succ, List.map_append]
  congr 1
  · apply List.map_congr_left
    intro a ha
    have := List.mem_range.1 ha
    have h2 : ¬ a = n := by omega
    simp [upf, h2]
  · simp [upf]
theorem li_cong {α : Type} {e e' : Nat → α} {n : Nat} (h : ∀ i, i < n → e i = e' i) : li e n = li e' n := by
  unfold li
  exact List.map_congr_left fun a ha => h a (List.mem_range.1 ha)
def intc : Nat → Nat → Value := fun x _ => .int .i64 (x : Nat)
abbrev K3 := Int × Int × Int
def keyc : K3 → Nat → Value
  | k, 0 => .int .i64 k.1
  | k, 1 => .int .i64 k.2.1
  | k, _ => .int .i64 k.2.2
/-- The heap's content: entries by places, places by handles, keys by handles. -/
structure Mm where
  n : Nat
  m : Nat
  e : Nat → Nat
  s : Nat → Nat
  k : Nat → K3
/-- The order of handles. -/
def ltM (k : Nat → K3) (a b : Nat) : Bool := decide ((if cmp3 (k a) (k b) ≠ 0 then cmp3 (k a) (k b) else cmpZ (a : Int) (b : Int)) < 0)
/-- Handles and places point at each other. -/
structure Lnk (S : Mm) : Prop where
  mb : S.m ≤ 1000000
  nb : S.n ≤ S.m
  at_ : ∀ i, i < S.n → S.e i < S.m ∧ S.s (S.e i) = i + 1
  gone : ∀ x, x < S.m → S.s x ≠ 0 → S.s x ≤ S.n ∧ S.e (S.s x - 1) = x
structure MmV (B : Nat) (w : World) (H : Nat) (va vk vs : Value) (S : Mm) : Prop where
  hB : B ≤ H
  blk : w.heap[H]? = some (.cells #[va, vk, vs] 91 (0, 0))
  ra : w.ownsRow B 3 1 va S.n (flatR 1 intc (li S.e S.n))
  rk : w.ownsRow B 69 3 vk S.m (flatR 3 keyc (li S.k S.m))
  rs : w.ownsRow B 3 1 vs S.m (flatR 1 intc (li S.s S.m))
  hH : ∀ b, (va.ownBlock = some b ∨ vk.ownBlock = some b ∨ vs.ownBlock = some b) → b ≠ H
  ap : ∀ b, va.ownBlock = some b → vk.ownBlock ≠ some b ∧ vs.ownBlock ≠ some b
  aq : ∀ b, vk.ownBlock = some b → vs.ownBlock ≠ some b
def FootM (H : Nat) (va vk vs : Value) (b : Nat) : Prop := b = H ∨ va.ownBlock = some b ∨ vk.ownBlock = some b ∨ vs.ownBlock = some b
variable {B H : Nat} {w w' : World} {va vk vs : Value} {S : Mm}
theorem MmV.ltH (h : MmV B w H va vk vs S) : H < w.heap.size := lt_of_at h.blk
theorem MmV.foot (h : MmV B w H va vk vs S) {b : Nat} (hb : FootM H va vk vs b) : B ≤ b ∧ b < w.heap.size := by
  rcases hb with q | q | q | q
  · subst q; exact ⟨h.hB, h.ltH⟩
  · exact h.ra.lt b q
  · exact h.rk.lt b q
  · exact h.rs.lt b q
theorem MmV.kept (h : MmV B w H va vk vs S) (e : ∀ b, FootM H va vk vs b → w'.heap[b]? = w.heap[b]?) : MmV B w' H va vk vs S :=
  ⟨h.hB, (e H (.inl rfl)).trans h.blk, rowR_kept h.ra fun b q => e b (.inr (.inl q)), rowR_kept h.rk fun b q => e b (.inr (.inr (.inl q))), rowR_kept h.rs fun b q => e b (.inr (.inr (.inr q))), h.hH, h.ap, h.aq⟩
theorem MmV.below (h : MmV B w H va vk vs S) (hb : Below w.heap.size w w') : MmV B w' H va vk vs S :=
  h.kept fun b q => hb.block b (h.foot q).2
/-- What a walk reads of the heap's block. -/
theorem MmV.head (h : MmV B w H va vk vs S) : w.cell? ⟨H, 0, none⟩ = some va ∧ w.cell? ⟨H, 1, none⟩ = some vk ∧ w.cell? ⟨H, 2, none⟩ = some vs :=
  ⟨(blk_cell h.blk 0).trans rfl, (blk_cell h.blk 1).trans rfl, (blk_cell h.blk 2).trans rfl⟩
theorem below_of {W w' : World} {p q : Prop} (h : Below W.heap.size W w' ∧ p ∧ q) : Below W.heap.size W w' := h.1
theorem rowI_cells {T : TypeId} {v : Value} {n : Nat} {f : Nat → Nat} (h : w.ownsRow B T 1 v n (flatR 1 intc (li f n))) (h0 : 0 < n) :
    ∃ g cap, v = .slice (some ⟨g, 0, none⟩) n cap ∧ B ≤ g ∧ g < w.heap.size ∧ (∀ o, w.frozen? ⟨g, o, none⟩ = false) ∧ ∀ i, i < n → w.cell? ⟨g, i, none⟩ = some (.int .i64 (f i : Nat)) := by
  obtain ⟨g, cap, e, hB, hg, hf, hc⟩ := rowR_cells h h0
  refine ⟨g, cap, e, hB, hg, hf, fun i hi => ?_⟩
  have := hc i _ (li_at f hi) 0 (by omega)
  rw [Nat.add_zero, Nat.mul_one] at this
  exact this
theorem rowK_cells {v : Value} {n : Nat} {f : Nat → K3} (h : w.ownsRow B 69 3 v n (flatR 3 keyc (li f n))) (h0 : 0 < n) :
    ∃ g cap, v = .slice (some ⟨g, 0, none⟩) n cap ∧ B ≤ g ∧ g < w.heap.size ∧ (∀ o, w.frozen? ⟨g, o, none⟩ = false) ∧
      ∀ i, i < n → w.cell? ⟨g, i * 3 + 0, none⟩ = some (.int .i64 (f i).1) ∧ w.cell? ⟨g, i * 3 + 1, none⟩ = some (.int .i64 (f i).2.1) ∧ w.cell? ⟨g, i * 3 + 2, none⟩ = some (.int .i64 (f i).2.2) := by
  obtain ⟨g, cap, e, hB, hg, hf, hc⟩ := rowR_cells h h0
  exact ⟨g, cap, e, hB, hg, hf, fun i hi => ⟨hc i _ (li_at f hi) 0 (by omega), hc i _ (li_at f hi) 1 (by omega), hc i _ (li_at f hi) 2 (by omega)⟩⟩
theorem or2v {g : Nat} {x y v : Int} (hv : Hid ((if x ≠ 0 then x else y) = v)) (w : World) {t : TypeId} {f : Nat × Nat} (h : w.heap[g]? = some (.cells #[.int .i64 x, .int .i64 y] t f)) :
    Calls Try.prog 31 #[.slice (some ⟨g, 0, none⟩) 2 2] w fun e w' => e = .returned (.int .i64 v) ∧ w = w' := by
  have := or2' g x y w h
  rw [hv.out] at this
  exact this
theorem rowI_set {T : TypeId} {g n cap i : Nat} {f : Nat → Nat} (h : w.ownsRow B T 1 (.slice (some ⟨g, 0, none⟩) n cap) n (flatR 1 intc (li f n))) (hi : i < n) (v : Nat) :
    (w.setCell ⟨g, i, none⟩ (.int .i64 (v : Nat))).ownsRow B T 1 (.slice (some ⟨g, 0, none⟩) n cap) n (flatR 1 intc (li (upf f i v) n)) := by
  have := (rowR_set h (i := i) (by rw [li_len]; exact hi) v).1
  rw [li_set, Nat.mul_one] at this
  exact this
/-- A place gets another entry. -/
theorem MmV.setE {g cap i : Nat} (h : MmV B w H (.slice (some ⟨g, 0, none⟩) S.n cap) vk vs S) (hi : i < S.n) (v : Nat) :
    MmV B (w.setCell ⟨g, i, none⟩ (.int .i64 (v : Nat))) H (.slice (some ⟨g, 0, none⟩) S.n cap) vk vs { S with e := upf S.e i v } := by
  have hg : (Value.slice (some ⟨g, 0, none⟩) S.n cap).ownBlock = some g := rfl
  have hne := h.hH g (.inl hg)
  have ho : ∀ b, b ≠ g → (w.setCell ⟨g, i, none⟩ (.int .i64 (v : Nat))).heap[b]? = w.heap[b]? := fun b hb => heap_setCell_other w _ b _ (fun e => hb e)
  refine ⟨h.hB, (ho H (fun e => hne e.symm)).trans h.blk, rowI_set h.ra hi v, rowR_kept h.rk fun b q => ho b (fun e => (h.ap g hg).1 (e ▸ q)), rowR_kept h.rs fun b q => ho b (fun e => (h.ap g hg).2 (e ▸ q)), h.hH, h.ap, h.aq⟩
/-- A handle gets another place. -/
theorem MmV.setS {g cap i : Nat} (h : MmV B w H va vk (.slice (some ⟨g, 0, none⟩) S.m cap) S) (hi : i < S.m) (v : Nat) :
    MmV B (w.setCell ⟨g, i, none⟩ (.int .i64 (v : Nat))) H va vk (.slice (some ⟨g, 0, none⟩) S.m cap) { S with s := upf S.s i v } := by
  have hg : (Value.slice (some ⟨g, 0, none⟩) S.m cap).ownBlock = some g := rfl
  have hne := h.hH g (.inr (.inr hg))
  have ho : ∀ b, b ≠ g → (w.setCell ⟨g, i, none⟩ (.int .i64 (v : Nat))).heap[b]? = w.heap[b]? := fun b hb => heap_setCell_other w _ b _ (fun e => hb e)
  refine ⟨h.hB, (ho H (fun e => hne e.symm)).trans h.blk, rowR_kept h.ra fun b q => ho b (fun e => (h.ap b q).2 (e ▸ hg)), rowR_kept h.rk fun b q => ho b (fun e => h.aq b q (e ▸ hg)), rowI_set h.rs hi v, h.hH, h.ap, h.aq⟩
set_option maxRecDepth 20000 in
set_option maxHeartbeats 4000000 in
theorem mless_g {i j : Nat} (h : MmV B w H va vk vs S) (hl : Lnk S) (hi : i < S.n) (hj : j < S.n) :
    Calls Try.prog 56 #[.pointer (some ⟨H, 0, none⟩), .int .i64 i, .int .i64 j] w fun e w' => e = .returned (.bool (ltM S.k (S.e i) (S.e j))) ∧ Below w.heap.size w w' := by
  obtain ⟨c0, c1, -⟩ := h.head
  have hlH := h.ltH
  obtain ⟨g, cap, rfl, -, hgl, -, hca⟩ := rowI_cells h.ra (by omega)
  have hm : 0 < S.m := by have := hl.nb; omega
  obtain ⟨g2, cap2, rfl, -, hgl2, -, hck⟩ := rowK_cells h.rk hm
  have ai := hca i hi
  have aj := hca j hj
  have mi := (hl.at_ i hi).1
  have mj := (hl.at_ j hj).1
  obtain ⟨x0, x1, x2⟩ := hck _ mi
  obtain ⟨y0, y1, y2⟩ := hck _ mj
  have ii : (i : Int) < (S.n : Int) := by omega
  have jj : (j : Int) < (S.n : Int) := by omega
  have D : Hid (decide ((if cmp3 (S.k (S.e i)) (S.k (S.e j)) ≠ 0 then cmp3 (S.k (S.e i)) (S.k (S.e j)) else cmpZ (S.e i : Int) (S.e j : Int)) < 0) = ltM S.k (S.e i) (S.e j)) := rfl
  clear h hl hca hck hi hj
  generalize ltM S.k (S.e i) (S.e j) = q at D ⊢
  generalize S.k (S.e i) = k at *
  generalize S.k (S.e j) = l at *
  generalize S.e i = a at *
  generalize S.e j = b at *
  generalize S.n = n at *
  generalize S.m = m at *
  have ma : (a : Int) < (m : Int) := by omega
  have mb : (b : Int) < (m : Int) := by omega
  have HC : Hid (∀ W : World, Below w.heap.size w W → Calls Try.prog 71 #[.slice (some ⟨g2, a * 3, none⟩) 3 3, .slice (some ⟨g2, b * 3, none⟩) 3 3] W fun e w' => e = .returned (.int .i64 (cmp3 k l)) ∧ W = w') := fun W hb => by
    refine cmpS_any g2 g2 (a * 3) (b * 3) k l W ?_ ?_ ?_ ?_ ?_ ?_
    · exact (hb.cell (p := ⟨g2, a * 3 + 0, none⟩) hgl2).trans x0
    · exact (hb.cell (p := ⟨g2, a * 3 + 1, none⟩) hgl2).trans x1
    · exact (hb.cell (p := ⟨g2, a * 3 + 2, none⟩) hgl2).trans x2
    · exact (hb.cell (p := ⟨g2, b * 3 + 0, none⟩) hgl2).trans y0
    · exact (hb.cell (p := ⟨g2, b * 3 + 1, none⟩) hgl2).trans y1
    · exact (hb.cell (p := ⟨g2, b * 3 + 2, none⟩) hgl2).trans y2
  clear x0 x1 x2 y0 y1 y2 mi mj hm
  generalize cmp3 k l = z at HC D
  obtain ⟨y, hy⟩ : ∃ y, (if z ≠ 0 then z else cmpZ (a : Int) (b : Int)) = y := ⟨_, rfl⟩
  rw [hy] at D
  have HY := hid hy
  clear hy
  go_enter Try.func56, Try.ntmps56
  go_upto_region 1 with fail
  go_region_held3 (fun w' => Below w.heap.size w w' ∧ (∀ b o, b < w.heap.size → w'.cell? ⟨b, o, none⟩ = w.cell? ⟨b, o, none⟩) ∧ ∀ b o, b < w.heap.size → w'.frozen? ⟨b, o, none⟩ = w.frozen? ⟨b, o, none⟩) (first | ((try go_split_ands); (try dsimp only); refine same_of ?_; (repeat (first | with_reducible assumption | with_reducible exact Below.refl _ _ | with_reducible refine Below.drew ?_ | with_reducible refine below_drewN ?_ _ | with_reducible refine below_alloc ?_ _ | with_reducible refine Below.alloc ?_ (by first | omega | (simp; done) | (simp; omega)) _ | with_reducible refine Below.setCell ?_ (by first | omega | (simp; done) | (simp; omega)) _ | with_reducible refine below_setRow ?_ (by first | omega | (simp; done) | (simp; omega)) _)); done) | ((try go_split_ands); (try dsimp only); refine same_of ?_; (repeat (first | with_reducible refine below_call ?_ hb99 | with_reducible assumption | with_reducible exact Below.refl _ _ | with_reducible refine Below.drew ?_ | with_reducible refine below_alloc ?_ _ | with_reducible refine Below.setCell ?_ (by (try have qz_hb99 := hb99.size); (try simp only [World.size_alloc, World.size_setCell, heap_drew] at qz_hb99); (try (obtain ⟨qy_hb99, -, -⟩ : Below _ _ w99 ∧ _ ∧ _ := by assumption; have qx_hb99 := qy_hb99.size)); first | omega | (dsimp only; omega)) _)); done)) (fail)
  all_goals
    obtain ⟨hb98, -, -⟩ : Below w.heap.size w _ ∧ _ ∧ _ := by assumption
    go_upto_region 2 with fail
    refine wp_name ?_
    intro w1 hw1
    have B1 : Below w.heap.size w w1 := by rw [hw1]; (repeat (first | with_reducible assumption | with_reducible exact Below.refl _ _ | with_reducible refine Below.drew ?_ | with_reducible refine below_drewN ?_ _ | with_reducible refine below_alloc ?_ _ | with_reducible refine Below.alloc ?_ (by first | omega | (simp; done) | (simp; omega)) _ | with_reducible refine Below.setCell ?_ (by first | omega | (simp; done) | (simp; omega)) _ | with_reducible refine below_setRow ?_ (by first | omega | (simp; done) | (simp; omega)) _))
    clear hw1 hb98
    have d1 : w1.cell? ⟨H, 1, none⟩ = some (.slice (some ⟨g2, 0, none⟩) m cap2) := (B1.cell (p := ⟨H, 1, none⟩) hlH).trans c1
    have hlH1 : H < w1.heap.size := by have := B1.size; omega
    clear c0 c1 ai aj ii jj
    have hs1 := B1.size
    go_region_held3 (fun w' => Below w1.heap.size w1 w' ∧ (∀ b o, b < w1.heap.size → w'.cell? ⟨b, o, none⟩ = w1.cell? ⟨b, o, none⟩) ∧ ∀ b o, b < w1.heap.size → w'.frozen? ⟨b, o, none⟩ = w1.frozen? ⟨b, o, none⟩) (first | ((try go_split_ands); (try dsimp only); refine same_of ?_; (repeat (first | with_reducible assumption | with_reducible exact Below.refl _ _ | with_reducible refine Below.drew ?_ | with_reducible refine below_drewN ?_ _ | with_reducible refine below_alloc ?_ _ | with_reducible refine Below.alloc ?_ (by first | omega | (simp; done) | (simp; omega)) _ | with_reducible refine Below.setCell ?_ (by first | omega | (simp; done) | (simp; omega)) _ | with_reducible refine below_setRow ?_ (by first | omega | (simp; done) | (simp; omega)) _)); done) | ((try go_split_ands); (try dsimp only); refine same_of ?_; (repeat (first | with_reducible refine below_call ?_ hb97 | with_reducible assumption | with_reducible exact Below.refl _ _ | with_reducible refine Below.drew ?_ | with_reducible refine below_alloc ?_ _ | with_reducible refine Below.setCell ?_ (by (try have qz_hb97 := hb97.size); (try simp only [World.size_alloc, World.size_setCell, heap_drew] at qz_hb97); (try (obtain ⟨qy_hb97, -, -⟩ : Below _ _ w97 ∧ _ ∧ _ := by assumption; have qx_hb97 := qy_hb97.size)); first | omega | (dsimp only; omega)) _)); done)) (first | (go_at_call 71; refine (HC.out _ (B1.trans ((below_of (by assumption)).mono hs1))).mono ?_; rintro e w4 ⟨rfl, rfl⟩) | (go_at_call 72; refine (cmpN_any _ _ _).mono ?_; rintro e w4 ⟨rfl, rfl⟩) | (go_at_call 31; refine (or2v HY _ (by (repeat (first | (with_reducible assumption) | (with_reducible exact alloc_at _ _) | ((with_reducible apply alloc_at'); (simp; done)) | (with_reducible apply alloc_at_lt) | (with_reducible apply heap_drew_at) | (with_reducible apply heap_drewN_at) | (with_reducible apply heap_setCell_same) | ((with_reducible apply heap_set_ne); (first | omega | (dsimp only; omega) | (simp; done) | (simp; omega))) | (with_reducible apply setRow_at) | ((with_reducible apply setRow_ne); (first | omega | (dsimp only; omega) | (simp; done) | (simp; omega))))))).mono ?_; rintro e w4 ⟨rfl, rfl⟩))
    all_goals
      obtain ⟨hb96, -, -⟩ : Below w1.heap.size w1 _ ∧ _ ∧ _ := by assumption
      obtain rfl := D.out
      go_wp2_with fail
      go_ret
      exact ⟨rfl, (by repeat (first | with_reducible assumption | with_reducible exact Below.refl _ _ | with_reducible refine Below.drew ?_ | with_reducible refine below_drewN ?_ _ | with_reducible refine below_alloc ?_ _ | with_reducible refine Below.alloc ?_ (by first | omega | (simp; done) | (simp; omega)) _ | with_reducible refine Below.setCell ?_ (by first | omega | (simp; done) | (simp; omega)) _ | with_reducible refine below_setRow ?_ (by first | omega | (simp; done) | (simp; omega)) _))⟩
end Go.Proofs.Ytingeijodooocaa
